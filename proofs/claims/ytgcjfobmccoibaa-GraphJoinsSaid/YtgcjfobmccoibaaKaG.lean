/- The map of a table of names, as the model holds it: which entries stand in it, what a look-up of a name and a store of a new name come to. No condition but those that each theorem states. (and what the parts below say) -/
import Derived.Test.YtgcjfobmccoibaaProg
import Derived.WalkKit
import Derived.Maps.OwnSet
import Derived.Test.YtgcjfobmccoibaaPNamesApartx1
import Derived.Test.YtgcjfobmccoibaaPGraphChecksx1
import Derived.WalkSpells
import Derived.Lib.Hide
import Derived.Deep.DeepMust
import Derived.Deep.QuietTactic
import Derived.BigQuiet
/-! The map of a table of names, as the model holds it: which entries stand in it, what a look-up of a name and a store of a new name come to. No condition but those that each theorem states. -/
namespace Go.Proofs.Ytgcjfobmccoibaa.Nm
open Go.RowKit

/-- The entry of name s at number i. -/
def ent (i : Nat) (s : ByteArray) : MapEntry := { key := .string s, val := .int .i64 (i : Int), born := i }
/-- The entries of names, numbered from i on. -/
def ents : Nat → List ByteArray → List MapEntry
  | _, [] => []
  | i, s :: L => ent i s :: ents (i + 1) L
section
variable {ops : Array Oper} {rest : List Oper} {o : Oper} {a : Act} {Q : Exit → Act → World → Prop} {w : World}

end

end Go.Proofs.Ytgcjfobmccoibaa.Nm

/-! A table of names in memory: what stands in its blocks; what New, Len, Find and Name come to. No condition but those that each theorem states. -/
namespace Go.Proofs.Ytgcjfobmccoibaa.Nm
open Go.RowKit Go.Proofs.YtgcjfobmccoibaaW.PrintWords Go.Proofs.YtgcjfobmccoibaaW.PrintLast Go.Proofs.YtgcjfobmccoibaaW.PrintMore

/-- Block p is a table that holds the names L in their order; its blocks are among ok. -/
def Tbl (w : World) (base : Nat) (ok : Nat → Prop) (p : Nat) (L : List ByteArray) : Prop :=
  ∃ v bm, w.heap[p]? = some (.cells #[v, .map (some bm)] 92 (0, 0)) ∧ w.heap[bm]? = some (.map (ents 0 L).toArray L.length) ∧ Kd.R Kd.string 9 w base ok v L ∧ base ≤ p ∧ base ≤ bm ∧ ok p ∧ ok bm

section
variable {w w1 : World} {base p : Nat} {ok ok' S : Nat → Prop} {L : List ByteArray}
theorem Tbl.step (h : Tbl w base ok p L) (hm : ∀ k, ok k → k < w.heap.size → w1.heap[k]? = w.heap[k]?) : Tbl w1 base ok p L := by
  obtain ⟨v, bm, h1, h2, h3, h4, h5, h6, h7⟩ := h
  exact ⟨v, bm, (hm p h6 (blk_lt h1)).trans h1, (hm bm h7 (blk_lt h2)).trans h2, Kd.R_step h3 hm, h4, h5, h6, h7⟩
theorem Tbl.mono (h : Tbl w base ok p L) (hok : ∀ k, ok k → ok' k) : Tbl w base ok' p L := by
  obtain ⟨v, bm, h1, h2, h3, h4, h5, h6, h7⟩ := h
  exact ⟨v, bm, h1, h2, Kd.R_mono h3 hok, h4, h5, hok _ h6, hok _ h7⟩
theorem Tbl.below (h : Tbl w base ok p L) (hb : Below w.heap.size w w1) : Tbl w1 base ok p L := h.step (fun k _ hk => hb.block k hk)
theorem Tbl.kept (h : Tbl w base ok p L) (hk : Kept w w1 S) (hne : ∀ k, ok k → ¬ S k) : Tbl w1 base ok p L := h.step (fun k ho hlt => hk.2 k hlt (hne k ho))
end


theorem blk_last (w : World) (o : Obj) : (w.alloc o).heap[w.heap.size]? = some o := by
  show (w.heap.push o)[w.heap.size]? = some o
  simp
theorem blk_old {w : World} (o : Obj) {k : Nat} {x : Obj} (h : w.heap[k]? = some x) : (w.alloc o).heap[k]? = some x := by
  rw [Below.heap_alloc w o k (blk_lt h)]; exact h

/-- The cells of a table. -/
theorem Tbl.cells {w : World} {base p : Nat} {ok : Nat → Prop} {L : List ByteArray} (h : Tbl w base ok p L) :
    ∃ A c bm, w.cell? ⟨p, 0, none⟩ = some (.slice A L.length c) ∧ w.cell? ⟨p, 1, none⟩ = some (.map (some bm)) ∧ w.heap[bm]? = some (.map (ents 0 L).toArray L.length) ∧ L.length ≤ c ∧ Kd.C Kd.string w A L.length L ∧ w.frozen? ⟨p, 0, none⟩ = false := by
  obtain ⟨v, bm, h1, h2, h3, _⟩ := h
  obtain ⟨A, c, rfl, hl, hc⟩ := Kd.R_reads h3
  exact ⟨A, c, bm, by simp [World.cell?, h1], by simp [World.cell?, h1], h2, hl, hc, by simp [World.frozen?, h1]⟩

end Go.Proofs.Ytgcjfobmccoibaa.Nm

/-! Which texts are names: both texts of Good come to the same test; and what Name comes to. No condition but those that each theorem states. -/
namespace Go.Proofs.Ytgcjfobmccoibaa.Nm
open Go.RowKit Go.Proofs.YtgcjfobmccoibaaW.PrintWords Go.Proofs.YtgcjfobmccoibaaW.PrintLast Go.Proofs.YtgcjfobmccoibaaW.PrintMore

/-- From place i on all bytes are those of names. -/
def bytesOk (s : ByteArray) (i : Nat) : Prop := ∀ j : Nat, i ≤ j → j < s.size → 33 ≤ bt s (j : Int) ∧ bt s (j : Int) ≤ 126
instance (s : ByteArray) (i : Nat) : Decidable (bytesOk s i) :=
  decidable_of_iff (∀ j, j < s.size → i ≤ j → 33 ≤ bt s (j : Int) ∧ bt s (j : Int) ≤ 126) ⟨fun h j a b => h j b a, fun h j a b => h j b a⟩
/-- A text is a name. -/
def goodB (s : ByteArray) : Bool := decide (1 ≤ s.size ∧ s.size ≤ 32 ∧ bytesOk s 0)

theorem bytesOk_end (s : ByteArray) (i : Nat) (h : s.size ≤ i) : bytesOk s i := fun j a b => by omega
theorem bytesOk_step {s : ByteArray} {i : Nat} (h : i < s.size) (hb : 33 ≤ bt s (i : Int) ∧ bt s (i : Int) ≤ 126) : bytesOk s i ↔ bytesOk s (i + 1) := by
  constructor
  · intro k j a b
    exact k j (by omega) b
  · intro k j a b
    by_cases e : j = i
    · subst e; exact hb
    · exact k j (by omega) b
theorem wrap_one {i : Nat} (h : i ≤ 9223372036854775806) : wrap64 ((i : Int) + 1) = ((i + 1 : Nat) : Int) := by
  unfold wrap64; omega

theorem good_loop (s : ByteArray) (hs : s.size ≤ 32) : ∀ (d k i : Nat), i + d = s.size → d < k →
    PGraphChecks.names_Good.l0 k s (s.size : Int) (i : Int) = some (decide (bytesOk s i))
  | 0, k, i, hd, hk => by
    obtain ⟨k, rfl⟩ : ∃ m, k = m + 1 := ⟨k - 1, by omega⟩
    simp only [PGraphChecks.names_Good.l0]
    rw [if_neg (by omega), decide_eq_true (bytesOk_end s i (by omega))]
  | d + 1, k, i, hd, hk => by
    obtain ⟨k, rfl⟩ : ∃ m, k = m + 1 := ⟨k - 1, by omega⟩
    simp only [PGraphChecks.names_Good.l0]
    rw [if_pos (by omega), if_pos (by omega), if_pos (by omega)]
    by_cases h1 : bt s (i : Int) < 33
    · rw [if_pos h1, decide_eq_false (fun h => by have := h i (Nat.le_refl _) (by omega); omega)]
    · rw [if_neg h1]
      by_cases h2 : bt s (i : Int) > 126
      · rw [if_pos h2, decide_eq_false (fun h => by have := h i (Nat.le_refl _) (by omega); omega)]
      · rw [if_neg h2, wrap_one (by omega), good_loop s hs d k (i + 1) (by omega) (by omega)]
        rw [decide_eq_decide.2 (bytesOk_step (by omega) ⟨by omega, by omega⟩).symm]

theorem rgood_loop (s : ByteArray) (hs : s.size ≤ 32) : ∀ (d k i : Nat), i + d = s.size → d < k →
    PGraphChecks.tendrilref03_Good.l0 k s (i : Int) = some (decide (bytesOk s i))
  | 0, k, i, hd, hk => by
    obtain ⟨k, rfl⟩ : ∃ m, k = m + 1 := ⟨k - 1, by omega⟩
    simp only [PGraphChecks.tendrilref03_Good.l0]
    rw [if_neg (by omega), decide_eq_true (bytesOk_end s i (by omega))]
  | d + 1, k, i, hd, hk => by
    obtain ⟨k, rfl⟩ : ∃ m, k = m + 1 := ⟨k - 1, by omega⟩
    simp only [PGraphChecks.tendrilref03_Good.l0]
    rw [if_pos (by omega), if_pos (by omega)]
    by_cases h1 : bt s (i : Int) ≤ 32
    · rw [if_pos h1, decide_eq_false (fun h => by have := h i (Nat.le_refl _) (by omega); omega)]
    · rw [if_neg h1]
      by_cases h2 : bt s (i : Int) ≥ 127
      · rw [if_pos h2, decide_eq_false (fun h => by have := h i (Nat.le_refl _) (by omega); omega)]
      · rw [if_neg h2, wrap_one (by omega), rgood_loop s hs d k (i + 1) (by omega) (by omega)]
        rw [decide_eq_decide.2 (bytesOk_step (by omega) ⟨by omega, by omega⟩).symm]

theorem toList_nil {s : ByteArray} : s.toList = [] ↔ s.size = 0 := by
  rw [Go.ByteArray.toList_eq]
  constructor
  · intro h
    have := congrArg List.length h
    simpa using this
  · intro h
    exact List.eq_nil_of_length_eq_zero (by simpa using h)

theorem good_f (s : ByteArray) : PGraphChecks.names_Good.f 40 s = some (goodB s) := by
  unfold PGraphChecks.names_Good.f goodB
  by_cases h0 : s.size = 0
  · rw [if_pos (toList_nil.2 h0)]
    simp only [PGraphChecks.names_Good.j0]
    rw [decide_eq_false (by omega)]
    rfl
  · rw [if_neg (fun h => h0 (toList_nil.1 h))]
    by_cases h1 : s.size ≤ 32
    · rw [decide_eq_false (by omega)]
      simp only [PGraphChecks.names_Good.j0]
      rw [if_neg (by decide), show (0 : Int) = ((0 : Nat) : Int) from rfl, good_loop s h1 s.size 39 0 (by omega) (by omega)]
      exact congrArg some (decide_eq_decide.2 ⟨fun h => ⟨by omega, h1, h⟩, fun h => h.2.2⟩)
    · rw [decide_eq_true (by omega)]
      simp only [PGraphChecks.names_Good.j0]
      rw [decide_eq_false (by omega)]
      rfl

theorem rgood_f (s : ByteArray) : PGraphChecks.tendrilref03_Good.f 40 s = some (goodB s) := by
  unfold PGraphChecks.tendrilref03_Good.f goodB
  by_cases h0 : s.size = 0
  · rw [if_pos (by omega)]
    simp only [PGraphChecks.tendrilref03_Good.j0]
    rw [decide_eq_false (by omega)]
    rfl
  · rw [if_neg (by omega)]
    by_cases h1 : s.size ≤ 32
    · rw [decide_eq_false (by omega)]
      simp only [PGraphChecks.tendrilref03_Good.j0]
      rw [if_neg (by decide), show (0 : Int) = ((0 : Nat) : Int) from rfl, rgood_loop s h1 s.size 39 0 (by omega) (by omega)]
      exact congrArg some (decide_eq_decide.2 ⟨fun h => ⟨by omega, h1, h⟩, fun h => h.2.2⟩)
    · rw [decide_eq_true (by omega)]
      simp only [PGraphChecks.tendrilref03_Good.j0]
      rw [decide_eq_false (by omega)]
      rfl

theorem good_calls (s : ByteArray) (w : World) : Calls Try.prog 23 #[.string s] w fun e w' => e = .returned (.bool (goodB s)) ∧ Drawn0 w w' := PGraphChecks.names_Good.calls 40 s _ w (good_f s)
end Go.Proofs.Ytgcjfobmccoibaa.Nm

/-! What Name and Put of a table come to; errors as they lie in memory. No condition but those that each theorem states. -/
namespace Go.Proofs.Ytgcjfobmccoibaa.Nm
open Go.RowKit Go.Proofs.YtgcjfobmccoibaaW.PrintWords Go.Proofs.YtgcjfobmccoibaaW.PrintLast Go.Proofs.YtgcjfobmccoibaaW.PrintMore

/-- An error value: nil, or a chain of faults: each with its code, its place, its name. -/
def IsErr (w : World) (ok : Nat → Prop) : Value → List (Int × Int × ByteArray) → Prop
  | ev, [] => ev = .nilIface
  | ev, (c, a, n) :: r => ∃ b cv, ev = .iface 93 (.pointer (some ⟨b, 0, none⟩)) ∧ ok b ∧ w.heap[b]? = some (.cells #[.int .i64 c, .int .i64 a, .string n, cv] 96 (0, 0)) ∧ IsErr w ok cv r

theorem IsErr.step {w w1 : World} {ok : Nat → Prop} (hm : ∀ k, ok k → k < w.heap.size → w1.heap[k]? = w.heap[k]?) : ∀ {r : List (Int × Int × ByteArray)} {ev : Value}, IsErr w ok ev r → IsErr w1 ok ev r
  | [], _, h => h
  | (_, _, _) :: _, _, ⟨b, cv, h1, h2, h3, h4⟩ => ⟨b, cv, h1, h2, (hm b h2 (blk_lt h3)).trans h3, h4.step hm⟩
theorem IsErr.mono {w : World} {ok ok' : Nat → Prop} (hok : ∀ k, ok k → ok' k) : ∀ {r : List (Int × Int × ByteArray)} {ev : Value}, IsErr w ok ev r → IsErr w ok' ev r
  | [], _, h => h
  | (_, _, _) :: _, _, ⟨b, cv, h1, h2, h3, h4⟩ => ⟨b, cv, h1, hok _ h2, h3, h4.mono hok⟩
theorem IsErr.below {w w1 : World} {ok : Nat → Prop} {r : List (Int × Int × ByteArray)} {ev : Value} (h : IsErr w ok ev r) (hb : Below w.heap.size w w1) : IsErr w1 ok ev r := h.step (fun k _ hk => hb.block k hk)
theorem IsErr.kept {w w1 : World} {ok S : Nat → Prop} {r : List (Int × Int × ByteArray)} {ev : Value} (h : IsErr w ok ev r) (hk : Kept w w1 S) (hne : ∀ k, ok k → ¬ S k) : IsErr w1 ok ev r := h.step (fun k ho hlt => hk.2 k hlt (hne k ho))

theorem isErr_made {w W : World} (hb : Below w.heap.size w W) (c a : Int) (n : ByteArray) : IsErr (W.alloc (.cells #[.int .i64 c, .int .i64 a, .string n, .nilIface] 96)) (fun k => w.heap.size ≤ k) (.iface 93 (.pointer (some ⟨W.heap.size, 0, none⟩))) [(c, a, n)] :=
  ⟨W.heap.size, .nilIface, rfl, hb.size, blk_last W _, rfl⟩
end Go.Proofs.Ytgcjfobmccoibaa.Nm

/-! Is: whether an error is just a chain of faults. No condition but those that each theorem states. -/
namespace Go.Proofs.Ytgcjfobmccoibaa.Nm
open Go.RowKit Go.Proofs.YtgcjfobmccoibaaW.PrintWords Go.Proofs.YtgcjfobmccoibaaW.PrintLast Go.Proofs.YtgcjfobmccoibaaW.PrintMore

/-- The four cells of a fault as plain numbers (its code, its place, its name, its causes): they tell this chain. -/
def FIs (w : World) (ok : Nat → Prop) : Int → Int → ByteArray → Value → List (Int × Int × ByteArray) → Prop
  | c, _, _, _, [] => c = 0
  | c, a, n, v, (c', a', n') :: r => c = c' ∧ c ≠ 0 ∧ a = a' ∧ n = n' ∧
    match r with
    | [] => ∃ A k, v = .slice A 0 k
    | (c2, a2, n2) :: r' => ∃ b o k v2, v = .slice (some ⟨b, o, none⟩) 1 k ∧ ok b ∧
      w.cell? ⟨b, o, none⟩ = some (.int .i64 c2) ∧ w.cell? ⟨b, o + 1, none⟩ = some (.int .i64 a2) ∧ w.cell? ⟨b, o + 2, none⟩ = some (.string n2) ∧ w.cell? ⟨b, o + 3, none⟩ = some v2 ∧ (∃ A2 l2 k2, v2 = .slice A2 l2 k2) ∧ FIs w ok c2 a2 n2 v2 ((c2, a2, n2) :: r')

theorem FIs.step {w w1 : World} {ok : Nat → Prop} (hm : ∀ k, ok k → k < w.heap.size → w1.heap[k]? = w.heap[k]?) : ∀ {r : List (Int × Int × ByteArray)} {c a : Int} {n : ByteArray} {v : Value}, FIs w ok c a n v r → FIs w1 ok c a n v r
  | [], _, _, _, _, h => h
  | [(_, _, _)], _, _, _, _, h => h
  | (_, _, _) :: (c2, a2, n2) :: r', _, _, _, _, h => by
    obtain ⟨h1, h2, h3, h4, b, o, k, v2, h5, h6, h7, h8, h9, h10, h11, h12⟩ := h
    have hb : w1.heap[b]? = w.heap[b]? := hm b h6 (World.block_lt_of_cell? w _ h7)
    have hc : ∀ j, w1.cell? ⟨b, j, none⟩ = w.cell? ⟨b, j, none⟩ := fun j => World.cell?_of_block (w := w) hb
    exact ⟨h1, h2, h3, h4, b, o, k, v2, h5, h6, (hc _).trans h7, (hc _).trans h8, (hc _).trans h9, (hc _).trans h10, h11, h12.step hm⟩

theorem bytes_ne {a b : ByteArray} (h : a ≠ b) : (a.toList == b.toList) = false := by
  rw [← beq_toListBytes]
  exact Bool.eq_false_iff.2 fun e => h ((MapKept.bytes_beq a b).1 e)
theorem ta_nil (w : World) : (Instr.typeAssert .nilIface 28 93 true).run Try.prog w = .ok (.tuple #[.pointer none, .bool false]) w := by kernel_rfl
theorem ta_fault (x : Value) (w : World) : (Instr.typeAssert (.iface 93 x) 28 93 true).run Try.prog w = .ok (.tuple #[x, .bool true]) w := by kernel_rfl

theorem is_next {w wr : World} {ok : Nat → Prop} {cv : Value} {re r : List (Int × Int × ByteArray)} {c2 a2 : Int} {n2 : ByteArray} {A2 : Option Addr} {l2 k2 nq : Nat} {x0 x1 x2 x3 : Value} (hok : ∀ k, ok k → k < w.heap.size)
    (HX : wr.heap[w.heap.size]? = some (.cells #[x0, x1, x2, x3] 33 (0, 0))) (HB : Below w.heap.size w wr) (he : IsErr wr ok cv re) (hf : FIs wr ok c2 a2 n2 (.slice A2 l2 k2) r) :
    IsErr (((((wr.drewN nq).setCell ⟨w.heap.size, 0, none⟩ (.int .i64 c2)).setCell ⟨w.heap.size, 1, none⟩ (.int .i64 a2)).setCell ⟨w.heap.size, 2, none⟩ (.string n2)).setCell ⟨w.heap.size, 3, none⟩ (.slice A2 l2 k2)) ok cv re ∧
    FIs (((((wr.drewN nq).setCell ⟨w.heap.size, 0, none⟩ (.int .i64 c2)).setCell ⟨w.heap.size, 1, none⟩ (.int .i64 a2)).setCell ⟨w.heap.size, 2, none⟩ (.string n2)).setCell ⟨w.heap.size, 3, none⟩ (.slice A2 l2 k2)) ok c2 a2 n2 (.slice A2 l2 k2) r ∧
    (((((wr.drewN nq).setCell ⟨w.heap.size, 0, none⟩ (.int .i64 c2)).setCell ⟨w.heap.size, 1, none⟩ (.int .i64 a2)).setCell ⟨w.heap.size, 2, none⟩ (.string n2)).setCell ⟨w.heap.size, 3, none⟩ (.slice A2 l2 k2)).heap[w.heap.size]? = some (.cells #[.int .i64 c2, .int .i64 a2, .string n2, .slice A2 l2 k2] 33 (0, 0)) ∧
    Below w.heap.size w (((((wr.drewN nq).setCell ⟨w.heap.size, 0, none⟩ (.int .i64 c2)).setCell ⟨w.heap.size, 1, none⟩ (.int .i64 a2)).setCell ⟨w.heap.size, 2, none⟩ (.string n2)).setCell ⟨w.heap.size, 3, none⟩ (.slice A2 l2 k2)) ∧
    (∃ A l k, (Value.slice A2 l2 k2) = .slice A l k) := by
  have hm : ∀ k, ok k → k < wr.heap.size → (((((wr.drewN nq).setCell ⟨w.heap.size, 0, none⟩ (.int .i64 c2)).setCell ⟨w.heap.size, 1, none⟩ (.int .i64 a2)).setCell ⟨w.heap.size, 2, none⟩ (.string n2)).setCell ⟨w.heap.size, 3, none⟩ (.slice A2 l2 k2)).heap[k]? = wr.heap[k]? := by
    intro k hk _
    have hne : k ≠ w.heap.size := Nat.ne_of_lt (hok k hk)
    rw [Below.heap_setCell _ _ _ _ hne, Below.heap_setCell _ _ _ _ hne, Below.heap_setCell _ _ _ _ hne, Below.heap_setCell _ _ _ _ hne]
    rfl
  refine ⟨he.step hm, hf.step hm, ?_, ((((pw_below_drewN HB nq).setCell (Nat.le_refl _) _).setCell (Nat.le_refl _) _).setCell (Nat.le_refl _) _).setCell (Nat.le_refl _) _, ⟨_, _, _, rfl⟩⟩
  exact blk_put (blk_put (blk_put (blk_put (blk_drewN HX nq) 0 (.int .i64 c2) rfl) 1 (.int .i64 a2) rfl) 2 (.string n2) rfl) 3 (.slice A2 l2 k2) rfl

set_option maxRecDepth 100000 in
set_option maxHeartbeats 1000000 in
theorem is_try (w : World) (ok : Nat → Prop) (ev : Value) (re r : List (Int × Int × ByteArray)) (c a : Int) (n : ByteArray) (v : Value) (hv : ∃ A2 l2 k2, v = .slice A2 l2 k2) (hok : ∀ k, ok k → k < w.heap.size) (he : IsErr w ok ev re) (hf : FIs w ok c a n v r) :
    Calls Try.prog 19 #[ev, .agg #[.int .i64 c, .int .i64 a, .string n, v]] w fun e w' => e = .returned (.bool (decide (re = r))) ∧ Below w.heap.size w w' := by
  have htn := ta_nil
  have htf := ta_fault
  go_enter Try.func19, Try.ntmps19
  go_wp2
  go_loopg [0] r.length (fun g v0 wr => ∃ ev' re' r' c' a' n' vv, ev' = v0 ∧ g = r'.length ∧ Aside0 (decide (re' = r') = decide (re = r)) ∧ IsErr wr ok ev' re' ∧ FIs wr ok c' a' n' vv r' ∧ wr.heap[w.heap.size]? = some (.cells #[.int .i64 c', .int .i64 a', .string n', vv] 33 (0, 0)) ∧ Below w.heap.size w wr ∧ (∃ A2 l2 k2, vv = .slice A2 l2 k2))
  case atStart => 
    have hb := (Below.refl w.heap.size w).alloc (Nat.le_refl _) (.cells #[.int .i64 c, .int .i64 a, .string n, v] 33)
    exact ⟨ev, re, r, c, a, n, v, rfl, rfl, ⟨rfl⟩, he.below hb, hf.step (fun k _ hk => hb.block k hk), blk_last w _, hb, hv⟩
  case round =>
    clear he hf
    obtain ⟨ev', re', r', c', a', n', vv, rfl, rfl, HD, he, hf, hbx, hB, hv1⟩ := hrel
    have b0 := blk_cell hbx 0
    have b1 := blk_cell hbx 1
    have b2 := blk_cell hbx 2
    have b3 := blk_cell hbx 3
    simp only [List.getElem?_toArray, List.getElem?_cons_zero, List.getElem?_cons_succ] at b0 b1 b2 b3
    have HB := Aside0.mk hB
    have HX := Aside0.mk hbx
    clear hB hbx
    cases r' with
    | nil =>
      have hc : c' = 0 := hf
      subst hc
      cases re' with
      | nil =>
        have he' : ev' = .nilIface := he
        subst he'
        clear he hf
        go_wp2
        go_ret
        exact ⟨by rw [← HD.out]; rfl, HB.out⟩
      | cons x re' =>
        obtain ⟨cx, ax, nx⟩ := x
        obtain ⟨bx, cv, rfl, hk, hbk, hr⟩ := he
        go_wp2
        go_ret
        exact ⟨by rw [← HD.out]; rfl, HB.out⟩
    | cons x r' =>
      obtain ⟨cy, ay, ny⟩ := x
      unfold FIs at hf
      obtain ⟨rfl, hc0, rfl, rfl, hrest⟩ := hf
      have hc0b : (c' == 0) = false := by simpa using hc0
      clear hc0
      cases re' with
      | nil =>
        have he' : ev' = .nilIface := he
        subst he'
        clear he
        go_wp2
        go_quiet (fail)
        go_wp2
        go_ret
        exact ⟨by rw [← HD.out]; rfl, pw_below_drewN HB.out _⟩
      | cons x re' =>
        obtain ⟨cx, ax, nx⟩ := x
        obtain ⟨bx, cv, rfl, hk, hbk, hr⟩ := he
        have d0 := blk_cell hbk 0
        have d1 := blk_cell hbk 1
        have d2 := blk_cell hbk 2
        have d3 := blk_cell hbk 3
        simp only [List.getElem?_toArray, List.getElem?_cons_zero, List.getElem?_cons_succ] at d0 d1 d2 d3
        by_cases hcc : cx = c'
        · subst hcc
          have e0 : (cx != cx) = false := by simp
          by_cases haa : ax = a'
          · subst haa
            have e1 : (ax != ax) = false := by simp
            by_cases hnn : nx = n'
            · subst hnn
              have e2 : (nx.toList == nx.toList) = true := by simp
              cases r' with
              | nil =>
                obtain ⟨A, kk, rfl⟩ := hrest
                cases re' with
                | nil =>
                  have hr' : cv = .nilIface := hr
                  subst hr'
                  clear hr
                  go_wp2
                  go_quiet (fail)
                  go_wp2
                  go_ret
                  exact ⟨by rw [← HD.out]; simp, pw_below_drewN HB.out _⟩
                | cons x2 re2 =>
                  obtain ⟨c3, a3, n3⟩ := x2
                  obtain ⟨b3', cv3, rfl, hk3, hbk3, hr3⟩ := hr
                  go_wp2
                  go_quiet (fail)
                  go_wp2
                  go_ret
                  exact ⟨by rw [← HD.out]; simp, pw_below_drewN HB.out _⟩
              | cons y r2 =>
                obtain ⟨c2, a2, n2⟩ := y
                obtain ⟨b, o, kk, v2, rfl, hbo, g0, g1, g2, g3, ⟨A2, l2, k2, rfl⟩, hf2⟩ := hrest
                have fb : wr.frozen? ⟨w.heap.size, 0, none⟩ = false := blk_frozen HX.out 0
                have fb1 : wr.frozen? ⟨w.heap.size, 1, none⟩ = false := blk_frozen HX.out 1
                have fb2 : wr.frozen? ⟨w.heap.size, 2, none⟩ = false := blk_frozen HX.out 2
                have fb3 : wr.frozen? ⟨w.heap.size, 3, none⟩ = false := blk_frozen HX.out 3
                go_wp2
                go_quiet (fail)
                go_wp2
                go_roundg (((c2, a2, n2) :: r2).length)
                case measure => simp
                case rel => exact ⟨cv, re', (c2, a2, n2) :: r2, c2, a2, n2, .slice A2 l2 k2, rfl, rfl, ⟨by rw [← HD.out]; simp⟩, is_next hok HX.out HB.out hr hf2⟩
            · have e2 : (nx.toList == n'.toList) = false := bytes_ne hnn
              have HN := Aside0.mk hnn
              clear hnn
              go_wp2
              go_quiet (fail)
              go_wp2
              go_ret
              exact ⟨by rw [← HD.out]; simp [HN.out], pw_below_drewN HB.out _⟩
          · have e1 : (ax != a') = true := by simpa using haa
            have HN := Aside0.mk haa
            clear haa
            go_wp2
            go_quiet (fail)
            go_wp2
            go_ret
            exact ⟨by rw [← HD.out]; simp [HN.out], pw_below_drewN HB.out _⟩
        · have e0 : (cx != c') = true := by simpa using hcc
          have HN := Aside0.mk hcc
          clear hcc
          go_wp2
          go_quiet (fail)
          go_wp2
          go_ret
          exact ⟨by rw [← HD.out]; simp [HN.out], pw_below_drewN HB.out _⟩

theorem IsErr.bound {w : World} {ok : Nat → Prop} : ∀ {r : List (Int × Int × ByteArray)} {ev : Value}, IsErr w ok ev r → IsErr w (fun k => ok k ∧ k < w.heap.size) ev r
  | [], _, h => h
  | (_, _, _) :: _, _, ⟨b, cv, h1, h2, h3, h4⟩ => ⟨b, cv, h1, ⟨h2, blk_lt h3⟩, h3, h4.bound⟩
theorem FIs.bound {w : World} {ok : Nat → Prop} : ∀ {r : List (Int × Int × ByteArray)} {c a : Int} {n : ByteArray} {v : Value}, FIs w ok c a n v r → FIs w (fun k => ok k ∧ k < w.heap.size) c a n v r
  | [], _, _, _, _, h => h
  | [(_, _, _)], _, _, _, _, h => h
  | (_, _, _) :: (c2, a2, n2) :: r', _, _, _, _, h => by
    obtain ⟨h1, h2, h3, h4, b, o, k, v2, h5, h6, h7, h8, h9, h10, h11, h12⟩ := h
    exact ⟨h1, h2, h3, h4, b, o, k, v2, h5, ⟨h6, World.block_lt_of_cell? w _ h7⟩, h7, h8, h9, h10, h11, h12.bound⟩
theorem FIs.mono {w : World} {ok ok' : Nat → Prop} (hok : ∀ k, ok k → ok' k) : ∀ {r : List (Int × Int × ByteArray)} {c a : Int} {n : ByteArray} {v : Value}, FIs w ok c a n v r → FIs w ok' c a n v r
  | [], _, _, _, _, h => h
  | [(_, _, _)], _, _, _, _, h => h
  | (_, _, _) :: (c2, a2, n2) :: r', _, _, _, _, h => by
    obtain ⟨h1, h2, h3, h4, b, o, k, v2, h5, h6, h7, h8, h9, h10, h11, h12⟩ := h
    exact ⟨h1, h2, h3, h4, b, o, k, v2, h5, hok _ h6, h7, h8, h9, h10, h11, h12.mono hok⟩

/-- Is: whether the error is just this chain. -/
theorem is_calls (w : World) (ok ok' : Nat → Prop) (ev : Value) (re r : List (Int × Int × ByteArray)) (c a : Int) (n : ByteArray) (v : Value) (hv : ∃ A2 l2 k2, v = .slice A2 l2 k2) (he : IsErr w ok ev re) (hf : FIs w ok' c a n v r) :
    Calls Try.prog 19 #[ev, .agg #[.int .i64 c, .int .i64 a, .string n, v]] w fun e w' => e = .returned (.bool (decide (re = r))) ∧ Below w.heap.size w w' :=
  is_try w (fun k => k < w.heap.size) ev re r c a n v hv (fun _ h => h) (he.bound.mono (fun _ h => h.2)) (hf.bound.mono (fun _ h => h.2))

end Go.Proofs.Ytgcjfobmccoibaa.Nm

/-! The document's answer for Put: its list, its number, its fault; and the fixed fact. No condition but those that each theorem states. -/
set_option linter.unusedSimpArgs false
set_option linter.unusedVariables false
namespace Go.Proofs.Ytgcjfobmccoibaa.Nm
open Go.RowKit Go.Proofs.YtgcjfobmccoibaaW.PrintWords Go.Proofs.YtgcjfobmccoibaaW.PrintLast Go.Proofs.YtgcjfobmccoibaaW.PrintMore

theorem box_below (w : World) (o : Obj) (n : Nat) : Below w.heap.size w ((w.alloc o).drewN n) := pw_below_drewN ((Below.refl _ _).alloc (Nat.le_refl _) _) n

end Go.Proofs.Ytgcjfobmccoibaa.Nm
