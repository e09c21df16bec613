/- The map of a table of names, as the model holds it: which entries stand in it, what a look-up of a name and a store of a new name come to. No condition but those that each theorem states. -/
import Derived.Test.YtgcjfobmccoibaaProg
import Derived.WalkKit
import Derived.Maps.OwnSet
namespace Go.Proofs.Ytgcjfobmccoibaa.Nm
open Go.RowKit

/-- The entry of name s at number i. -/
def ent (i : Nat) (s : ByteArray) : MapEntry := { key := .string s, val := .int .i64 (i : Int), born := i }
/-- The entries of names, numbered from i on. -/
def ents : Nat → List ByteArray → List MapEntry
  | _, [] => []
  | i, s :: L => ent i s :: ents (i + 1) L
/-- The place of a name in a list. -/
def idx (s : ByteArray) : List ByteArray → Option Nat
  | [] => none
  | x :: L => if x = s then some 0 else (idx s L).map (· + 1)

theorem ents_length : ∀ (L : List ByteArray) (i : Nat), (ents i L).length = L.length
  | [], _ => rfl
  | _ :: L, i => by simp [ents, ents_length L (i + 1)]

theorem ents_append : ∀ (L : List ByteArray) (i : Nat) (s : ByteArray), ents i (L ++ [s]) = ents i L ++ [ent (i + L.length) s]
  | [], i, s => by simp [ents]
  | x :: L, i, s => by
    simp only [List.cons_append, ents, ents_append L (i + 1) s, List.length_cons]
    rw [show i + 1 + L.length = i + (L.length + 1) by omega]

theorem idx_lt {s : ByteArray} : ∀ {L : List ByteArray} {i : Nat}, idx s L = some i → i < L.length ∧ L[i]? = some s
  | [], i, h => by simp [idx] at h
  | x :: L, i, h => by
    unfold idx at h
    split at h
    · rename_i hx
      cases h
      simp [hx]
    · cases hj : idx s L with
      | none => simp [hj] at h
      | some j =>
        simp only [hj, Option.map_some, Option.some.injEq] at h
        subst h
        have := idx_lt hj
        simpa using this

theorem idx_none {s : ByteArray} : ∀ {L : List ByteArray}, idx s L = none ↔ s ∉ L
  | [] => by simp [idx]
  | x :: L => by
    unfold idx
    by_cases hx : x = s
    · simp [hx]
    · rw [if_neg hx, Option.map_eq_none_iff, idx_none (L := L)]
      simp [List.mem_cons, Ne.symm hx]

theorem findNow_ents (s : ByteArray) : ∀ (L : List ByteArray) (i k : Nat),
    Instr.findNow .string (.string s) (ents i L) k = some ((idx s L).map fun j => (k + j, Value.int .i64 ((i + j : Nat) : Int)))
  | [], i, k => by simp [ents, Instr.findNow, idx]
  | x :: L, i, k => by
    simp only [ents, ent, Instr.findNow, Instr.sameNow]
    by_cases hx : x = s
    · subst hx
      rw [(MapKept.bytes_beq x x).2 rfl]
      simp [idx]
    · have h1 : (s == x) = false := Bool.eq_false_iff.2 fun e => hx ((MapKept.bytes_beq s x).1 e).symm
      rw [h1]
      simp only []
      rw [findNow_ents s L (i + 1) (k + 1), idx, if_neg hx]
      cases idx s L with
      | none => rfl
      | some j => simp; omega

/-- A look-up with 'ok' in a map that holds just the names of L. -/
theorem run_look {w : World} {b : Nat} {L : List ByteArray} (hb : w.heap[b]? = some (.map (ents 0 L).toArray L.length)) (s : ByteArray) :
    (Instr.lookup 90 (.map (some b)) (.string s) true).run Try.prog w = .ok (.tuple #[.int .i64 (((idx s L).getD 0 : Nat) : Int), .bool (idx s L).isSome]) w := by
  have hz : (zeroValue 3).run Try.prog w = .ok (.int .i64 0) w := by kernel_rfl
  have hf := findNow_ents s L 0 0
  have hk := MapKept.run_findKey (w := w) (l := ents 0 L) Try.underlying9 hf
  have hc := MapKept.run_checkKey (w := w) (k := .string s) Try.underlying9 (by simp [MapKept.IsKey]) (ents 0 L).isEmpty 9999
  simp only [Nat.reduceAdd] at hc
  cases hi : idx s L with
  | none =>
    rw [hi] at hk
    simp only [Option.map_none] at hk
    simp [Instr.lookup, run_underlying Try.underlying90, MapKept.run_getObj_map hb, hc, hk, hz, Result.andThen]
  | some j =>
    rw [hi] at hk
    simp only [Option.map_some, Nat.zero_add] at hk
    simp [Instr.lookup, run_underlying Try.underlying90, MapKept.run_getObj_map hb, hc, hk, Result.andThen]

/-- A store of a new name under its number. -/
theorem run_store {w : World} {b : Nat} {L : List ByteArray} (hb : w.heap[b]? = some (.map (ents 0 L).toArray L.length)) (s : ByteArray) (hs : s ∉ L) :
    (Instr.mapUpdate 90 (.map (some b)) (.string s) (.int .i64 (L.length : Int))).run Try.prog w = .ok () (ChangeMaps.setBlock w b (.map (ents 0 (L ++ [s])).toArray (L.length + 1))) := by
  have hf := findNow_ents s L 0 0
  rw [idx_none.2 hs] at hf
  have hk := MapKept.run_findKey (w := w) (l := ents 0 L) Try.underlying9 hf
  have hc := MapKept.run_checkKey (w := w) (k := .string s) Try.underlying9 (by simp [MapKept.IsKey]) false 9999
  simp only [Nat.reduceAdd] at hc
  simp only [Option.map_none] at hk
  simp [Instr.mapUpdate, run_underlying Try.underlying90, MapKept.run_getObj_map hb, hc, hk, MapKept.run_setObj_map _ hb, Result.andThen, ChangeMaps.setBlock, ents_append, ent]

section
variable {ops : Array Oper} {rest : List Oper} {o : Oper} {a : Act} {Q : Exit → Act → World → Prop} {w : World}

theorem wp_look (hg : o.guard = none) (m x : Operand) (hop : o.op = Op.lookup 90 m x true) (b : Nat) (s : ByteArray) (L : List ByteArray)
    (hm : a.eval m = .map (some b)) (hx : a.eval x = .string s) (hb : w.heap[b]? = some (.map (ents 0 L).toArray L.length))
    (hK : wpList Try.prog ops Q rest (a.put o.dst (.tuple #[.int .i64 (((idx s L).getD 0 : Nat) : Int), .bool (idx s L).isSome])) w) : wpList Try.prog ops Q (o :: rest) a w := by
  refine wpList_plain hg fun K' hK' => ?_
  unfold Oper.wp
  simp [execOp, hop, hm, hx, run_look hb, Result.andThen]
  exact hK' _ _ hK

theorem wp_store (hg : o.guard = none) (m x v : Operand) (hop : o.op = Op.mapUpdate 90 m x v) (b : Nat) (s : ByteArray) (L : List ByteArray)
    (hm : a.eval m = .map (some b)) (hx : a.eval x = .string s) (hv : a.eval v = .int .i64 (L.length : Int)) (hb : w.heap[b]? = some (.map (ents 0 L).toArray L.length)) (hs : s ∉ L)
    (hK : wpList Try.prog ops Q rest (a.put o.dst undef) (ChangeMaps.setBlock w b (.map (ents 0 (L ++ [s])).toArray (L.length + 1)))) : wpList Try.prog ops Q (o :: rest) a w := by
  refine wpList_plain hg fun K' hK' => ?_
  unfold Oper.wp
  simp [execOp, hop, hm, hx, hv, run_store hb s hs, Result.andThen]
  exact hK' _ _ hK
end

end Go.Proofs.Ytgcjfobmccoibaa.Nm
