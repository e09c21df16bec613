/- All of a table of names: the iterator, for every loop body that leaves the list's block as it is; Clone of a list of texts; All. What is asked: how the list is read. -/
import Derived.RangeFuncNested
import Derived.RangeFuncBound
import Derived.RangeFuncCalls
import Derived.RangeFuncLeaves
import Derived.RangeFuncBox
import Derived.Shelf.Abstract
import Derived.WalkKit
import Derived.OwnWalkIn
import Derived.TacticsInMore
import Derived.LoopNIn
import Derived.LoopIn
import Derived.Maps.AppendAt
import Derived.WalkSpells
import Derived.Test.YtgcjfobmccoibaaNm9
set_option linter.unusedSimpArgs false
set_option linter.unusedVariables false
namespace Go.Proofs.Ytgcjfobmccoibaa.Nm
open Go.RowKit Go.Shelf Go.Proofs.YtgcjfobmccoibaaW.PrintWords Go.Proofs.YtgcjfobmccoibaaW.PrintLast Go.Proofs.YtgcjfobmccoibaaW.PrintMore

attribute [local go_sem] Oper.semAt_some

/-- What has come when k rounds are over: the first k texts with their numbers. -/
def upto (L : List ByteArray) (k : Nat) : List (Nat × ByteArray) := (List.range k).map fun j => (j, L.getD j ByteArray.empty)
theorem upto_succ (L : List ByteArray) (k : Nat) : upto L (k + 1) = upto L k ++ [(k, L.getD k ByteArray.empty)] := by simp [upto, List.range_succ]
theorem upto_length (L : List ByteArray) (k : Nat) : (upto L k).length = k := by simp [upto]
theorem upto_snd (L : List ByteArray) {k : Nat} (hk : k ≤ L.length) : (upto L k).map (·.2) = L.take k := by
  apply List.ext_getElem
  · simp [upto, hk]
  · intro i h1 h2
    have : i < L.length := by simp [upto] at h1; omega
    simp [upto, this]

/-- The blocks of S are as they were. -/
def KpS (S : Nat → Prop) (A B : World) : Prop := ∀ k, S k → B.heap[k]? = A.heap[k]?
theorem KpS.trans {S : Nat → Prop} {A B C : World} (h : KpS S A B) (k : KpS S B C) : KpS S A C := fun j hj => (k j hj).trans (h j hj)
theorem KpS.refl (S : Nat → Prop) (A : World) : KpS S A A := fun _ _ => rfl
theorem KpS.put {S : Nat → Prop} {w : World} (hS : ∀ k, S k → k < w.heap.size) (W : World) (l : Nat) (o o' : Obj) (hl : w.heap.size ≤ l) (h : W.heap[l]? = some o) (_ : o.isCells = false) (_ : o.isWalk = false) : KpS S W (W.putObj l o') := by
  intro k hk
  have := hS k hk
  simp only [World.putObj]
  rw [Array.getElem?_setIfInBounds_ne (by omega)]

set_option maxRecDepth 100000 in
set_option maxHeartbeats 2000000 in
theorem all1_in (F : Fence) (n : Nat) (h65 : F.fn 65) (hro : F.round = none) (hn : 1 ≤ n) (l Bs c : Nat) (A : Option Addr) (L : List ByteArray) (hl : L.length ≤ 1000000) (S : Nat → Prop) (J Jx : List (Nat × ByteArray) → World → Prop)
    (hY : ∀ pre x W, J pre W → pre.length < L.length → YieldAt F (n - 1) Try.prog l #[.int .i64 (x.1 : Int), .string x.2] W fun e W' =>
      (e = .returned (.bool true) ∧ J (pre ++ [x]) W' ∧ KpS S W W') ∨ (e = .returned (.bool false) ∧ Jx (pre ++ [x]) W'))
    (W : World) (hBs : W.cell? ⟨Bs, 0, none⟩ = some (.slice A L.length c)) (hC : ∀ W', KpS S W W' → Kd.C Kd.string W' A L.length L) (h0 : J [] W) :
    CallsIn F n Try.prog 65 #[.func (.yield l) #[] #[], .pointer (some ⟨Bs, 0, none⟩)] W fun e W' => (∃ v, e = .returned v) ∧
      ((∃ ys, ys = upto L L.length ∧ J ys W') ∨ (∃ pre, (∃ k, k ≤ L.length ∧ pre = upto L k) ∧ Jx pre W')) := by
  refine callsIn_of_wp Try.func65 rfl h65 ?_ hro
  simp only [Try.ntmps65, List.size_toArray, List.length_cons, List.length_nil, Nat.reduceAdd, Nat.reduceSub, Array.replicate_succ, Array.replicate_zero, List.push_toArray, List.append_toArray, List.nil_append, List.cons_append]
  have HC := Aside0.mk hC
  clear hC
  gi_wp2
  gi_loopw [7] (fun i wr => ∃ k : Nat, k ≤ L.length ∧ i = .int .i64 (k : Int) ∧ J (upto L k) wr ∧ Aside0 (KpS S W wr))
    (fun i _ => L.length - (intOf i).toNat)
  case atStart => exact ⟨0, Nat.zero_le _, rfl, h0, ⟨KpS.refl _ _⟩⟩
  case round =>
    obtain ⟨k, hk, rfl, hJs, hnx⟩ := hrel
    by_cases hlt : k < L.length
    · obtain ⟨ad, cc, rfl, hcl, hK, hcc⟩ := Kd.C_get (HC.out wr hnx.out) ByteArray.empty (k : Int) (by omega) (by omega)
      have hK' : cc = [.string (L.getD k ByteArray.empty)] := hK
      subst hK'
      have hx : wr.cell? (ad.add k) = some (.string (L.getD k ByteArray.empty)) := by
        have := hcc 0 _ rfl
        simpa [Kd.string, Kd.scalar] using this
      clear hK hcl hcc
      have hus := upto_succ L k
      generalize L.getD k ByteArray.empty = t at hx hus
      have HU := Aside0.mk hus
      clear hus
      obtain ⟨fn, tmps, assign, body, hy, hR⟩ := hY _ (k, t) wr hJs (by rw [upto_length]; exact hlt)
      dsimp only at hy
      gi_wp2
      refine hR.mono ?_
      rintro e W3 (⟨rfl, hJ3, hk3⟩ | ⟨rfl, hJx3⟩)
      · have HK3 := Aside0.mk hk3
        clear hk3
        gi_wp2
        go_roundw
        case rel => exact ⟨k + 1, by omega, by simp, by rw [HU.out]; exact hJ3, ⟨hnx.out.trans HK3.out⟩⟩
        case measure => simp [intOf]; omega
      · gi_wp2
        refine bodyPost_ret (results_none rfl _ _ _) rfl ?_
        exact ⟨⟨_, rfl⟩, .inr ⟨_, ⟨k + 1, by omega, HU.out.symm⟩, hJx3⟩⟩
    · obtain rfl : k = L.length := by omega
      gi_wp2
      go_end0
      exact ⟨⟨_, rfl⟩, .inl ⟨_, rfl, hJs⟩⟩

end Go.Proofs.Ytgcjfobmccoibaa.Nm
