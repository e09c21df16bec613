/- How a slice of texts that came in reads as a row of texts. -/
import Derived.Test.YtgcjfobmccoibaaRows
import Derived.Test.YtgcjfobmccoibaaNm2
import Derived.WalkKit
import Derived.ProofKit
import Derived.OpenShut
import Derived.ShutString
import Derived.ChangeOld
import Derived.SizedLaws
import Derived.SliceStrings
import Derived.Test.YtgcjfobmccoibaaWSized
set_option linter.unusedSimpArgs false
set_option linter.unusedVariables false
namespace Go.Proofs.Ytgcjfobmccoibaa.Nm
open Go.ChangeShapes Go.WideShapes Go.ChangeAt Go.RowKit Go.Proofs.YtgcjfobmccoibaaW.PrintWords
open Go.ChangeMaps (open_string shut_string)

theorem own : ownKnob Try.prog.godebug = none := by kernel_rfl
theorem laidOut : laidOutB Try.prog = true := by kernel_rfl

theorem strs_read {W : World} {a : Addr} {len : Nat} {ss : List ByteArray} (hl : len ≤ ss.length) (hm : len ≤ 9223372036854775807) (hcell : ∀ i, i < ss.length → W.cell? (a.add i) = some (.string (ss.getD i ByteArray.empty))) :
    Kd.C Kd.string W (some a) (ss.take len).length (ss.take len) := by
  have e : (ss.take len).length = len := by simp; omega
  refine ⟨rfl, by omega, fun _ => ⟨a, rfl, fun j p hj => ⟨[.string p], rfl, rfl, fun i u hu => ?_⟩⟩⟩
  have hjl : j < len := by have := (List.getElem?_eq_some_iff.1 hj).1; omega
  have hp : ss[j]? = some p := by rw [List.getElem?_take, if_pos hjl] at hj; exact hj
  cases i with
  | succ i => simp at hu
  | zero =>
    simp at hu
    subst hu
    have := hcell j (by omega)
    simpa [Kd.string, Kd.scalar, hp] using this

/-- A slice of texts among what came in: a row of texts, no longer than a slice can be. -/
theorem strs_open {H : Type} {enc : TypeId × Value → H} {W : World} {sp : Nat → Bool} {held : Bool} {fuel : Nat} {a : Option Addr} {len cap : Nat} {x : DataW H × List MemPlace}
    (h : DataW.trod enc Try.prog W 0 sp held fuel 25 (Value.slice a len cap).cells.toList = some x) : ∃ l : List ByteArray, l.length = len ∧ len ≤ 9223372036854775807 ∧ Kd.C Kd.string W a l.length l := by
  rcases open_strings Try.underlying25 Try.underlying9 (by kernel_rfl) h with ⟨hcs, hx⟩ | ⟨a', len', cap', ss, hcs, _, hl, hm, hz, hx, hcell, hws⟩
  · simp [Value.cells] at hcs
    obtain ⟨rfl, rfl, rfl⟩ := hcs
    exact ⟨[], rfl, by omega, rfl, by simp, fun h => by simp at h⟩
  · simp [Value.cells] at hcs
    obtain ⟨rfl, rfl, rfl⟩ := hcs
    have hle : len ≤ ss.length := by rw [hz]; split <;> omega
    simp only [maxLen] at hm
    exact ⟨ss.take len, by simp; omega, by omega, strs_read hle (by omega) hcell⟩

end Go.Proofs.Ytgcjfobmccoibaa.Nm
