/- How a slice of texts that came in reads as a row of texts. (and what the parts below say) -/
import Derived.Test.YtgcjfobmccoibaaRows
import Derived.Test.YtgcjfobmccoibaaKaG
import Derived.WalkKit
import Derived.ProofKit
import Derived.OpenShut
import Derived.ShutString
import Derived.ChangeOld
import Derived.SizedLaws
import Derived.SliceStrings
import Derived.Test.YtgcjfobmccoibaaWSized
import Derived.Test.YtgcjfobmccoibaaKb
import Derived.Deep.Slices
import Derived.Lib.SmallJoins
/-! How a slice of texts that came in reads as a row of texts. -/
set_option linter.unusedSimpArgs false
set_option linter.unusedVariables false
namespace Go.Proofs.Ytgcjfobmccoibaa.Nm
open Go.ChangeShapes Go.WideShapes Go.ChangeAt Go.RowKit Go.Proofs.YtgcjfobmccoibaaW.PrintWords
open Go.ChangeMaps (open_string shut_string)

theorem own : ownKnob Try.prog.godebug = none := by kernel_rfl
theorem laidOut : laidOutB Try.prog = true := by kernel_rfl

theorem strs_read {W : World} {a : Addr} {len : Nat} {ss : List ByteArray} (hl : len ≤ ss.length) (hm : len ≤ 9223372036854775807) (hcell : ∀ i, i < ss.length → W.cell? (a.add i) = some (.string (ss.getD i ByteArray.empty))) :
    Kd.C Kd.string W (some a) (ss.take len).length (ss.take len) := by
  have e : (ss.take len).length = len := by simp; omega
  refine ⟨rfl, by omega, fun _ => ⟨a, rfl, fun j p hj => ⟨[.string p], rfl, rfl, fun i u hu => ?_⟩⟩⟩
  have hjl : j < len := by have := (List.getElem?_eq_some_iff.1 hj).1; omega
  have hp : ss[j]? = some p := by rw [List.getElem?_take, if_pos hjl] at hj; exact hj
  cases i with
  | succ i => simp at hu
  | zero =>
    simp at hu
    subst hu
    have := hcell j (by omega)
    simpa [Kd.string, Kd.scalar, hp] using this

/-- A slice of texts among what came in: a row of texts, no longer than a slice can be. -/
theorem strs_open {H : Type} {enc : TypeId × Value → H} {W : World} {sp : Nat → Bool} {held : Bool} {fuel : Nat} {a : Option Addr} {len cap : Nat} {x : DataW H × List MemPlace}
    (h : DataW.trod enc Try.prog W 0 sp held fuel 25 (Value.slice a len cap).cells.toList = some x) : ∃ l : List ByteArray, l.length = len ∧ len ≤ 9223372036854775807 ∧ Kd.C Kd.string W a l.length l := by
  rcases open_strings Try.underlying25 Try.underlying9 (by kernel_rfl) h with ⟨hcs, hx⟩ | ⟨a', len', cap', ss, hcs, _, hl, hm, hz, hx, hcell, hws⟩
  · simp [Value.cells] at hcs
    obtain ⟨rfl, rfl, rfl⟩ := hcs
    exact ⟨[], rfl, by omega, rfl, by simp, fun h => by simp at h⟩
  · simp [Value.cells] at hcs
    obtain ⟨rfl, rfl, rfl⟩ := hcs
    have hle : len ≤ ss.length := by rw [hz]; split <;> omega
    simp only [maxLen] at hm
    exact ⟨ss.take len, by simp; omega, by omega, strs_read hle (by omega) hcell⟩

end Go.Proofs.Ytgcjfobmccoibaa.Nm

/-! How a graph that came in reads as rows of nodes and of numbers. -/
set_option linter.unusedSimpArgs false
set_option linter.unusedVariables false
namespace Go.Proofs.Ytgcjfobmccoibaa.Gr
open Go.ChangeShapes Go.WideShapes Go.ChangeAt Go.RowKit Go.Proofs.YtgcjfobmccoibaaW.PrintWords
open Go.Proofs.Ytgcjfobmccoibaa.Nm

section
variable {H : Type} {enc : TypeId × Value → H} {W : World} {sp : Nat → Bool} {held : Bool}

/-- A slice that came in, its elements being read by d. -/
theorem row_open {α : Type} (d : Kd α) {t e : TypeId} {fuel : Nat} {cs : List Value} {x : DataW H × List MemPlace} (ht : Try.prog.underlying t = some (.slice e)) (hc : Try.prog.cellsOf e = d.sz)
    (hd : ∀ n cs y, DataW.trod enc Try.prog W 0 sp held n e cs = some y → ∃ v, d.K W v cs) (h : DataW.trod enc Try.prog W 0 sp held fuel t cs = some x) :
    ∃ (A : Option Addr) (c : Nat) (l : List α), cs = [.slice A l.length c] ∧ l.length ≤ c ∧ Kd.C d W A l.length l := by
  rcases Go.Deep.open_slice ht h with ⟨rfl, _⟩ | ⟨a, len, cap, m, n, D, Pl, rfl, hb, hl, hm, hmm, rfl, hx⟩
  · exact ⟨none, 0, [], rfl, Nat.le_refl _, Kd.C_nil _ _⟩
  · have hlm : len ≤ m := by rw [hmm]; split <;> omega
    have hex : ∀ i : Nat, ∃ v : Option α, i < len → ∃ v', v = some v' ∧ ∃ cs', W.cells? 0 (a.add (i * d.sz)) d.sz = some cs' ∧ d.K W v' cs' := by
      intro i
      by_cases hi : i < len
      · obtain ⟨cs', h1, h2⟩ := hx i (by omega)
        rw [hc] at h1
        obtain ⟨v, hv⟩ := hd _ _ _ h2
        exact ⟨some v, fun _ => ⟨v, rfl, cs', h1, hv⟩⟩
      · exact ⟨none, fun h => absurd h hi⟩
    obtain ⟨f, hf⟩ := Classical.axiomOfChoice hex
    have hlen : ((List.range len).filterMap f).length = len ∧ ∀ i, i < len → ((List.range len).filterMap f)[i]? = f i := by
      clear hx hmm hlm hl h hex
      induction len with
      | zero => simp
      | succ k ih =>
        obtain ⟨i1, i2⟩ := ih (fun i hi => hf i (by omega))
        obtain ⟨v, hv, _⟩ := hf k (by omega)
        rw [List.range_succ, List.filterMap_append]
        refine ⟨by simp [i1, hv], fun i hi => ?_⟩
        by_cases hik : i < k
        · rw [List.getElem?_append_left (by omega)]
          exact i2 i hik
        · obtain rfl : i = k := by omega
          rw [List.getElem?_append_right (by omega), i1]
          simp [hv]
    refine ⟨some a, cap, (List.range len).filterMap f, by rw [hlen.1], by rw [hlen.1]; exact hl, rfl, by rw [hlen.1]; simp only [maxLen] at hm; omega, fun _ => ⟨a, rfl, fun j p hj => ?_⟩⟩
    have hjl : j < len := by have := (List.getElem?_eq_some_iff.1 hj).1; rw [hlen.1] at this; exact this
    rw [hlen.2 j hjl] at hj
    obtain ⟨v', hv', cs', h1, h2⟩ := hf j hjl
    rw [hv'] at hj
    cases hj
    obtain ⟨_, hsz, hcell⟩ := World.cells?_some h1
    refine ⟨cs', hsz, h2, fun i u hu => ?_⟩
    have hi : i < d.sz := by have := (List.getElem?_eq_some_iff.1 hu).1; omega
    have h3 := hcell i hi
    rw [hu] at h3
    rw [← h3]
    rw [Addr.add_add]

theorem int_open {n : Nat} {cs : List Value} {y : DataW H × List MemPlace} (h : DataW.trod enc Try.prog W 0 sp held n 3 cs = some y) : ∃ v, (Kd.int .i64).K W v cs := by
  obtain ⟨z, hz, _⟩ := DataW.trod_int Try.underlying3 h
  exact ⟨z, hz⟩

theorem str_open {n : Nat} {cs : List Value} {y : DataW H × List MemPlace} (h : DataW.trod enc Try.prog W 0 sp held n 9 cs = some y) : ∃ v, Kd.string.K W v cs := by
  obtain ⟨z, hz, _⟩ := DataW.trod_string Try.underlying9 h
  exact ⟨z, hz⟩
theorem ints_open {n : Nat} {cs : List Value} {y : DataW H × List MemPlace} (h : DataW.trod enc Try.prog W 0 sp held n 50 cs = some y) : ∃ (A : Option Addr) (c : Nat) (l : List Int), cs = [.slice A l.length c] ∧ l.length ≤ c ∧ Kd.C (Kd.int .i64) W A l.length l :=
  row_open (Kd.int .i64) Try.underlying50 (by kernel_rfl) (fun n cs y h => int_open h) h
set_option maxRecDepth 100000 in
theorem node_open {n : Nat} {cs : List Value} {y : DataW H × List MemPlace} (h : DataW.trod enc Try.prog W 0 sp held n 55 cs = some y) : ∃ v, k55.K W v cs := by
  obtain ⟨y0, y1, y2, y3, m, _, hl, h0, h1, h2, h3⟩ := Go.Joins.trod_struct4 Try.underlying55 h
  have e55 : Try.prog.cellsOf 55 = 4 := by kernel_rfl
  have e3 : Try.prog.cellsOf 3 = 1 := by kernel_rfl
  have e9 : Try.prog.cellsOf 9 = 1 := by kernel_rfl
  have e50 : Try.prog.cellsOf 50 = 1 := by kernel_rfl
  rw [e55] at hl
  match cs, hl with
  | [c0, c1, c2, c3], _ =>
    simp only [e3, e9, e50, List.drop_zero, List.drop_succ_cons, List.take_succ_cons, List.take_zero] at h0 h1 h2 h3
    obtain ⟨f0, hf0⟩ := int_open h0
    obtain ⟨f1, hf1⟩ := str_open h1
    obtain ⟨f2, hf2⟩ := int_open h2
    obtain ⟨A3, k3, f3, hs3, hl3, hc3⟩ := ints_open h3
    have g0 : [c0] = [.int .i64 f0] := hf0
    have g1 : [c1] = [.string f1] := hf1
    have g2 : [c2] = [.int .i64 f2] := hf2
    simp only [List.cons.injEq, and_true] at g0 g1 g2 hs3
    subst g0 g1 g2 hs3
    exact ⟨⟨f0, f1, f2, f3⟩, PGraphChecks.k55_mk W ⟨f0, f1, f2, f3⟩ hl3 hc3⟩
theorem nodes_open {n : Nat} {cs : List Value} {y : DataW H × List MemPlace} (h : DataW.trod enc Try.prog W 0 sp held n 49 cs = some y) : ∃ (A : Option Addr) (c : Nat) (l : List S55), cs = [.slice A l.length c] ∧ l.length ≤ c ∧ Kd.C k55 W A l.length l :=
  row_open k55 Try.underlying49 (by kernel_rfl) (fun n cs y h => node_open h) h
set_option maxRecDepth 100000 in
/-- A graph among what came in. -/
theorem graph_open {n : Nat} {cs : List Value} {y : DataW H × List MemPlace} (h : DataW.trod enc Try.prog W 0 sp held n 52 cs = some y) : ∃ A c ns A' c' rs, cs = (gv A c ns A' c' rs).cells.toList ∧ IsG W A c ns A' c' rs := by
  obtain ⟨y0, y1, m, _, hl, h0, h1⟩ := trod_struct2 Try.underlying52 h
  have e52 : Try.prog.cellsOf 52 = 2 := by kernel_rfl
  have e49 : Try.prog.cellsOf 49 = 1 := by kernel_rfl
  have e50 : Try.prog.cellsOf 50 = 1 := by kernel_rfl
  rw [e52] at hl
  match cs, hl with
  | [c0, c1], _ =>
    simp only [e49, e50, List.drop_zero, List.drop_succ_cons, List.take_succ_cons, List.take_zero] at h0 h1
    obtain ⟨A, c, ns, hs0, hl0, hc0⟩ := nodes_open h0
    obtain ⟨A', c', rs, hs1, hl1, hc1⟩ := ints_open h1
    simp only [List.cons.injEq, and_true] at hs0 hs1
    subst hs0 hs1
    exact ⟨A, c, ns, A', c', rs, rfl, ⟨hc0, hc1, hl0, hl1⟩⟩
set_option maxRecDepth 100000 in
theorem graph_arg {r : Reach} {b0 : Nat} {v : Value} {d : DataW H} {p : List MemPlace} (hv : Value.okWide Try.prog W r b0 52 v) (h : DataW.Trod enc Try.prog W 0 sp held 52 v d p) : ∃ A c ns A' c' rs, v = gv A c ns A' c' rs ∧ IsG W A c ns A' c' rs := by
  obtain ⟨cs, rfl, hsz⟩ := okWide_struct Try.underlying52 hv
  obtain ⟨fuel, hf⟩ := h
  obtain ⟨A, c, ns, A', c', rs, he, hg⟩ := graph_open hf
  exact ⟨A, c, ns, A', c', rs, by
    have h1 : cs.toList = (#[Value.slice A ns.length c, Value.slice A' rs.length c'] : Array Value).toList := by simpa [gv, Value.cells] using he
    rw [Array.toList_inj.1 h1]; rfl, hg⟩

end
end Go.Proofs.Ytgcjfobmccoibaa.Gr
