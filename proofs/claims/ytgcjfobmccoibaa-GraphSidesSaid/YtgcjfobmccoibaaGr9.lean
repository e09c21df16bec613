/- GraphWays: paths of a walk that came in; how a walk is opened. What is asked: how the walk is read. -/
import Derived.Test.YtgcjfobmccoibaaKe
import Derived.Test.YtgcjfobmccoibaaKc
set_option linter.unusedSimpArgs false
set_option linter.unusedVariables false
namespace Go.Proofs.Ytgcjfobmccoibaa.Gr
open Go.ChangeShapes Go.WideShapes Go.ChangeAt Go.RowKit Go.Proofs.YtgcjfobmccoibaaW.PrintWords Go.Proofs.YtgcjfobmccoibaaW.PrintLast Go.Proofs.YtgcjfobmccoibaaW.PrintMore
open Go.Proofs.Ytgcjfobmccoibaa.Nm

/-- How a walk lies. -/
structure IsW (w : World) (A : Option Addr) (c : Nat) (ns : List S55) (A' : Option Addr) (c' : Nat) (rs : List Int) (B : Option Addr) (k : Nat) (ms : List S55) (B' : Option Addr) (k' : Nat) (ss : List Int) (P : Option Addr) (pc : Nat) (path : List Int) : Prop where
  g : IsG w A c ns A' c' rs
  h : IsG w B k ms B' k' ss
  p : Kd.C (Kd.int .i64) w P path.length path
  l : path.length ≤ pc
def wv (A : Option Addr) (c : Nat) (ns : List S55) (A' : Option Addr) (c' : Nat) (rs : List Int) (B : Option Addr) (k : Nat) (ms : List S55) (B' : Option Addr) (k' : Nat) (ss : List Int) (node : Int) (P : Option Addr) (pc : Nat) (path : List Int) : Value :=
  .agg #[.slice A ns.length c, .slice A' rs.length c', .slice B ms.length k, .slice B' ss.length k', .int .i64 node, .slice P path.length pc]

section
variable {H : Type} {enc : TypeId × Value → H} {W : World} {sp : Nat → Bool} {held : Bool}
set_option maxRecDepth 100000 in
theorem walk_arg {r : Reach} {b0 : Nat} {v : Value} {d : DataW H} {p : List MemPlace} (hv : Value.okWide Try.prog W r b0 64 v) (h : DataW.Trod enc Try.prog W 0 sp held 64 v d p) :
    ∃ A c ns A' c' rs B k ms B' k' ss node P pc path, v = wv A c ns A' c' rs B k ms B' k' ss node P pc path ∧ IsW W A c ns A' c' rs B k ms B' k' ss P pc path := by
  obtain ⟨cs, rfl, hsz⟩ := okWide_struct Try.underlying64 hv
  obtain ⟨fuel, hf⟩ := h
  obtain ⟨y0, y1, y2, y3, m, _, hl, h0, h1, h2, h3⟩ := Go.Joins.trod_struct4 Try.underlying64 hf
  have e64 : Try.prog.cellsOf 64 = 6 := by kernel_rfl
  have e52 : Try.prog.cellsOf 52 = 2 := by kernel_rfl
  have e3 : Try.prog.cellsOf 3 = 1 := by kernel_rfl
  have e50 : Try.prog.cellsOf 50 = 1 := by kernel_rfl
  rw [e64] at hl
  have hc : (Value.agg cs).cells.toList = cs.toList := by simp [Value.cells]
  rw [hc] at hl h0 h1 h2 h3
  obtain ⟨L, hL⟩ : ∃ L, cs.toList = L := ⟨_, rfl⟩
  rw [hL] at hl h0 h1 h2 h3
  match L, hl with
  | [c0, c1, c2, c3, c4, c5], _ =>
    simp only [e52, e3, e50, List.drop_zero, List.drop_succ_cons, List.take_succ_cons, List.take_zero] at h0 h1 h2 h3
    obtain ⟨A, c, ns, A', c', rs, g0, hg⟩ := graph_open h0
    obtain ⟨B, k, ms, B', k', ss, g1, hh⟩ := graph_open h1
    obtain ⟨node, hn⟩ := int_open h2
    obtain ⟨P, pc, path, g3, hlp, hp⟩ := ints_open h3
    have g2 : [c4] = [.int .i64 node] := hn
    simp only [gv, Value.cells, List.cons.injEq, and_true] at g0 g1 g2 g3
    obtain ⟨rfl, rfl⟩ := g0
    obtain ⟨rfl, rfl⟩ := g1
    subst g2 g3
    refine ⟨A, c, ns, A', c', rs, B, k, ms, B', k', ss, node, P, pc, path, ?_, ⟨hg, hh, hp, hlp⟩⟩
    have h1 : cs.toList = (#[Value.slice A ns.length c, Value.slice A' rs.length c', Value.slice B ms.length k, Value.slice B' ss.length k', Value.int .i64 node, Value.slice P path.length pc] : Array Value).toList := hL
    rw [Array.toList_inj.1 h1]; rfl

end
end Go.Proofs.Ytgcjfobmccoibaa.Gr
