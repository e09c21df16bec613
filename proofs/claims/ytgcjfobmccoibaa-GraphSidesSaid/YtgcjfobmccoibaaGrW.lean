/- GraphSides: sides of a walk that came in. What is asked: how the walk is read. -/
import Derived.Test.YtgcjfobmccoibaaGrV
import Derived.Test.YtgcjfobmccoibaaGr9
set_option linter.unusedSimpArgs false
set_option linter.unusedVariables false
namespace Go.Proofs.Ytgcjfobmccoibaa.Gr
open Go.ChangeShapes Go.WideShapes Go.ChangeAt Go.RowKit Go.Proofs.YtgcjfobmccoibaaW.PrintWords Go.Proofs.YtgcjfobmccoibaaW.PrintLast Go.Proofs.YtgcjfobmccoibaaW.PrintMore
open Go.Proofs.Ytgcjfobmccoibaa.Nm

set_option maxRecDepth 100000 in
set_option maxHeartbeats 1000000 in
theorem sidesw_calls (w : World) (A : Option Addr) (c : Nat) (ns : List S55) (A' : Option Addr) (c' : Nat) (rs : List Int) (B : Option Addr) (k : Nat) (ms : List S55) (B' : Option Addr) (k' : Nat) (ss : List Int) (node : Int) (P : Option Addr) (pc : Nat) (path : List Int) (h : IsW w A c ns A' c' rs B k ms B' k' ss P pc path) :
    Calls Try.prog 11 #[wv A c ns A' c' rs B k ms B' k' ss node P pc path] w fun e w' => e = .returned (.bool true) ∧ Below w.heap.size w w' := by
  have HB := Aside0.mk (below_alloc (Below.refl w.heap.size w) (.cells #[.slice A ns.length c, .slice A' rs.length c', .slice B ms.length k, .slice B' ss.length k', .int .i64 node, .slice P path.length pc] 64))
  have HP := sides_calls (w.alloc (.cells #[.slice A ns.length c, .slice A' rs.length c', .slice B ms.length k, .slice B' ss.length k', .int .i64 node, .slice P path.length pc] 64)) A c ns A' c' rs (h.g.below HB.out) B k ms B' k' ss (h.h.below HB.out) node P pc path (Kd.C_below h.p HB.out)
  simp only [gv] at HP
  simp only [wv]
  clear h
  go_enter Try.func11, Try.ntmps11
  go_wp2_with fail
  refine HP.mono ?_
  rintro e w1 ⟨rfl, hB1⟩
  go_wp2_with fail
  go_ret
  exact ⟨rfl, below_then HB.out HB.out.size hB1⟩

end Go.Proofs.Ytgcjfobmccoibaa.Gr
