/- How a list of graphs that came in reads as a row of graphs. -/
import Derived.Test.YtgcjfobmccoibaaKc
import Derived.Test.YtgcjfobmccoibaaGrQ5
set_option linter.unusedSimpArgs false
set_option linter.unusedVariables false
namespace Go.Proofs.Ytgcjfobmccoibaa.Gr
open Go.ChangeShapes Go.WideShapes Go.ChangeAt Go.RowKit Go.Proofs.YtgcjfobmccoibaaW.PrintWords
open Go.Proofs.Ytgcjfobmccoibaa.Nm
open Go.Proofs.Ytgcjfobmccoibaa.PGraphChecks (S52 z52 k52 k52_mk)

section
variable {H : Type} {enc : TypeId × Value → H} {W : World} {sp : Nat → Bool} {held : Bool}
theorem graph_k {n : Nat} {cs : List Value} {y : DataW H × List MemPlace} (h : DataW.trod enc Try.prog W 0 sp held n 52 cs = some y) : ∃ v, k52.K W v cs := by
  obtain ⟨A, c, ns, A', c', rs, he, hG⟩ := graph_open h
  refine ⟨⟨ns, rs⟩, ?_⟩
  have : cs = [.slice A ns.length c, .slice A' rs.length c'] := by simpa [gv, Value.cells] using he
  rw [this]
  exact k52_mk W ⟨ns, rs⟩ hG.ln hG.n hG.lr hG.r
theorem graphs_open {n : Nat} {cs : List Value} {y : DataW H × List MemPlace} (h : DataW.trod enc Try.prog W 0 sp held n 67 cs = some y) : ∃ (A : Option Addr) (c : Nat) (l : List S52), cs = [.slice A l.length c] ∧ l.length ≤ c ∧ Kd.C k52 W A l.length l :=
  row_open k52 Try.underlying67 (by kernel_rfl) (fun n cs y h => graph_k h) h
end

end Go.Proofs.Ytgcjfobmccoibaa.Gr
