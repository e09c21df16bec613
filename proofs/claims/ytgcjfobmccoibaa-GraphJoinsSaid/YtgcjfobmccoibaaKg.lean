/- A stack of numbers in a box, while a loop over an iterator lays numbers onto it; what else lay stays. No program but the model's. (and what the parts below say) -/
import Derived.Test.YtgcjfobmccoibaaKe
import Derived.Test.YtgcjfobmccoibaaKf
import Derived.Maps.OwnIn
/-! A stack of numbers in a box, while a loop over an iterator lays numbers onto it; what else lay stays. No program but the model's. -/
set_option linter.unusedSimpArgs false
set_option linter.unusedVariables false
namespace Go.Proofs.Ytgcjfobmccoibaa.Gr
open Go.RowKit Go.Proofs.YtgcjfobmccoibaaW.PrintWords Go.Proofs.YtgcjfobmccoibaaW.PrintLast Go.Proofs.YtgcjfobmccoibaaW.PrintMore
open Go.Proofs.Ytgcjfobmccoibaa.Nm

theorem kept_refl (w : World) (S : Nat → Prop) : Kept w w S := ⟨Nat.le_refl _, fun _ _ _ => rfl⟩
theorem kept_trans {a b c : World} {S : Nat → Prop} (h : Kept a b S) (k : Kept b c S) : Kept a c S := ⟨Nat.le_trans h.1 k.1, fun i hi hn => (k.2 i (Nat.lt_of_lt_of_le hi h.1) hn).trans (h.2 i hi hn)⟩

/-- The box b5 holds a stack of its own: base, then what has come. W3: the world where the loop began; okT: the stack's block then. -/
structure Rg (n0 : Nat) (w0 W3 : World) (b5 : Nat) (okT : Nat → Prop) (base : List Int) (pre : List (Int × Int)) (X : World) : Prop where
  kept : Kept W3 X (fun k => k = b5 ∨ okT k)
  bel : Below n0 w0 X
  row : ∃ v, Boxed X b5 50 v ∧ Kd.R (Kd.int .i64) 3 X n0 (fun k => okT k ∨ W3.heap.size ≤ k) v (base ++ pre.map (·.2))

theorem rg_own {n0 : Nat} (w0 W3 : World) (b5 : Nat) (okT : Nat → Prop) (base : List Int) {B : Nat} (hB : W3.heap.size ≤ B) (hn : n0 ≤ W3.heap.size) : OwnFrom B (Rg n0 w0 W3 b5 okT base) := by
  intro pre X Y row hs hg hr
  obtain ⟨h1, h2, v, h3, h4⟩ := hs
  refine ⟨⟨Nat.le_trans h1.1 hg.size, fun i hi hn => (hg.block i (Nat.lt_of_lt_of_le hi h1.1) (fun e => by have := (hr i e.symm).1; omega)).trans (h1.2 i hi hn)⟩, h2.grown hg (Nat.le_trans hn h1.1) (fun k e => by have := (hr k e).1; omega), v, h3.kept hg (fun e => ?_), ?_⟩
  · obtain ⟨_, o, ho, hc⟩ := hr b5 e.symm
    have h3' : X.heap[b5]? = some (.cells #[v] 50 (0, 0)) := h3
    rw [h3'] at ho
    cases ho
    cases hc
  · refine Kd.R_grown2 h4 rfl hg (fun k e he => ?_)
    obtain ⟨_, o, ho, hc⟩ := hr k e
    obtain ⟨cells, hcl⟩ := Kd.R_typed h4 k he.symm
    rw [hcl] at ho
    cases ho
    cases hc

theorem Rg.step {n0 : Nat} {w0 W3 X w1 : World} {b5 : Nat} {okT : Nat → Prop} {base : List Int} {pre : List (Int × Int)} {x : Int × Int} {v v' : Value} {tmp : Obj} (h : Rg n0 w0 W3 b5 okT base pre X)
    (hv : Boxed X b5 50 v) (hrow : Kd.R (Kd.int .i64) 3 X n0 (fun k => okT k ∨ W3.heap.size ≤ k) v (base ++ pre.map (·.2))) (hb0 : n0 ≤ b5) (hb : b5 < W3.heap.size) (hn : n0 ≤ W3.heap.size) (hT : ∀ k, okT k → n0 ≤ k ∧ k < W3.heap.size)
    (hown' : w1.ownsRow n0 3 1 v' ((base ++ pre.map (·.2)).length + 1) (encs (Value.int .i64) (base ++ pre.map (·.2)) ++ [.int .i64 x.2])) (hgrow : (X.alloc tmp).grownBy w1 v.ownBlock) (hat : v'.ownBlock = v.ownBlock ∨ v'.ownBlock = some (X.alloc tmp).heap.size) :
    Boxed w1 b5 50 v ∧ Rg n0 w0 W3 b5 okT base (pre ++ [x]) (w1.setCell ⟨b5, 0, none⟩ v') ∧ KeepsOthers X (w1.setCell ⟨b5, 0, none⟩ v') ∧ ∀ Bs, Bs < W3.heap.size → Bs ≠ b5 → ¬ okT Bs → KpB n0 Bs X (w1.setCell ⟨b5, 0, none⟩ v') := by
  have hs := h.kept.1
  obtain ⟨a1, a2, a3, a4, a5⟩ := hv.appended (by decide) (Kd.own_of_R hrow) (Nat.le_trans hn hs) hb0 hown' hgrow
  have hsz : X.heap.size ≤ w1.heap.size := by have := hgrow.size; rw [World.size_alloc] at this; omega
  have hold : ∀ i, i < W3.heap.size → i ≠ b5 → ¬ okT i → (w1.setCell ⟨b5, 0, none⟩ v').heap[i]? = X.heap[i]? := by
    intro i hi h1 h2
    have hlt : i < X.heap.size := Nat.lt_of_lt_of_le hi hs
    rw [Below.heap_setCell _ _ _ _ (by simpa using h1), hgrow.block i (by rw [World.size_alloc]; omega) (fun e => ?_), Below.heap_alloc _ _ _ hlt]
    rcases hrow.1 i e.symm with h3 | h3
    · exact h2 h3
    · omega
  have hkeep : Kept W3 (w1.setCell ⟨b5, 0, none⟩ v') (fun k => k = b5 ∨ okT k) :=
    ⟨by simpa using Nat.le_trans hs hsz, fun i hi hni => (hold i hi (fun e => hni (.inl e)) (fun e => hni (.inr e))).trans (h.kept.2 i hi hni)⟩
  refine ⟨a1, ⟨hkeep, h.bel.trans a5, v', a2, ?_⟩, a4, fun Bs hB1 hB2 hB3 => ⟨a5, ?_⟩⟩
  · have e1 : encs (Value.int .i64) (base ++ pre.map (·.2)) ++ [.int .i64 x.2] = encs (Value.int .i64) (base ++ (pre ++ [x]).map (·.2)) := by simp [encs]
    have e2 : (base ++ pre.map (·.2)).length + 1 = (base ++ (pre ++ [x]).map (·.2)).length := by simp; omega
    rw [e1, e2] at a3
    refine Kd.R_of_own a3 (fun k hk => ?_)
    rcases hat with e | e
    · exact hrow.1 k (by rw [← e]; exact hk)
    · rw [e] at hk
      cases hk
      right
      simp
      omega
  · exact hold Bs hB1 hB2 hB3

/-- What the walk holds before each round: the box of the graph at w0's end, the box of the stack at b5; what is met, the table of places, the stack (its top at the end): apart from one another. -/
structure Wk (w0 : World) (X0 X1 : Value) (b5 : Nat) (v2 v3 : Value) (met P todo : List Int) (w : World) : Prop where
  bel : Below w0.heap.size w0 w
  gbox : w.heap[w0.heap.size]? = some (.cells #[X0, X1] 52 (0, 0))
  lt5 : w0.heap.size ≤ b5
  row : ∃ (okM okP okT : Nat → Prop) (v5 : Value), w.heap[b5]? = some (.cells #[v5] 50 (0, 0)) ∧ Kd.R (Kd.int .i64) 3 w w0.heap.size okM v2 met ∧ Kd.R (Kd.int .i64) 3 w w0.heap.size okP v3 P ∧ Kd.R (Kd.int .i64) 3 w w0.heap.size okT v5 todo.reverse ∧
    (∀ k, okM k → ¬ okP k ∧ ¬ okT k ∧ k < w.heap.size) ∧ (∀ k, okP k → ¬ okT k ∧ k < w.heap.size) ∧ (∀ k, okT k → k < w.heap.size)

section
variable {w0 W w1 : World} {X0 X1 v2 v3 : Value} {b5 : Nat} {met P todo : List Int}
theorem ne_type {W : World} {a b t u : Nat} {cs ds : Array Value} (h : W.heap[a]? = some (.cells cs t (0, 0))) (k : W.heap[b]? = some (.cells ds u (0, 0))) (hne : t ≠ u) : a ≠ b := by
  rintro rfl
  rw [h] at k
  injection k with k
  injection k with _ k
  exact hne k
theorem Wk.below (h : Wk w0 X0 X1 b5 v2 v3 met P todo W) (hb : Below W.heap.size W w1) : Wk w0 X0 X1 b5 v2 v3 met P todo w1 := by
  obtain ⟨h1, h2, h3, okM, okP, okT, v5, h4, h5, h6, h7, d1, d2, d3⟩ := h
  have hs := hb.size
  exact ⟨below_then h1 h1.size hb, (hb.block _ (blk_lt h2)).trans h2, h3, okM, okP, okT, v5, (hb.block _ (blk_lt h4)).trans h4, Kd.R_below h5 hb, Kd.R_below h6 hb, Kd.R_below h7 hb, fun k hk => ⟨(d1 k hk).1, (d1 k hk).2.1, Nat.lt_of_lt_of_le (d1 k hk).2.2 hs⟩, fun k hk => ⟨(d2 k hk).1, Nat.lt_of_lt_of_le (d2 k hk).2 hs⟩, fun k hk => Nat.lt_of_lt_of_le (d3 k hk) hs⟩
theorem Wk.pop {n : Int} {t : List Int} {A : Option Addr} {m c6 : Nat} (h : Wk w0 X0 X1 b5 v2 v3 met P (n :: t) W) (hb : W.heap[b5]? = some (.cells #[.slice A m c6] 50 (0, 0))) : Wk w0 X0 X1 b5 v2 v3 met P t (W.setCell ⟨b5, 0, none⟩ (.slice A t.length c6)) := by
  obtain ⟨h1, h2, h3, okM, okP, okT, v5, h4, h5, h6, h7, d1, d2, d3⟩ := h
  rw [hb] at h4
  obtain rfl : .slice A m c6 = v5 := by simpa using h4
  have hR := Kd.R_take (m := t.length) h7 (by simp)
  have htk : (n :: t).reverse.take t.length = t.reverse := by simp [List.take_append_of_le_length, List.take_of_length_le]
  rw [htk] at hR
  have hbox : (W.setCell ⟨b5, 0, none⟩ (.slice A t.length c6)).heap[b5]? = some (.cells #[.slice A t.length c6] 50 (0, 0)) := Boxed.set (W := W) (B := b5) (t := 50) (.slice A t.length c6) hb
  refine ⟨h1.setCell (p := ⟨b5, 0, none⟩) h3 _, ?_, h3, okM, okP, okT, _, hbox, Kd.R_set h5 hb (by simp [Kd.int, Kd.scalar]) 0 _, Kd.R_set h6 hb (by simp [Kd.int, Kd.scalar]) 0 _, Kd.R_set hR hb (by simp [Kd.int, Kd.scalar]) 0 _, ?_, ?_, ?_⟩
  · rw [Below.heap_setCell _ _ _ _ (ne_type h2 hb (by decide))]; exact h2
  · simpa using d1
  · simpa using d2
  · simpa using d3
theorem Wk.put {g3 N c3 : Nat} (h : Wk w0 X0 X1 b5 v2 (.slice (some ⟨g3, 0, none⟩) N c3) met P todo W) (i : Nat) (x : Int) : Wk w0 X0 X1 b5 v2 (.slice (some ⟨g3, 0, none⟩) N c3) met (P.set i x) todo (W.setCell ⟨g3, i, none⟩ (.int .i64 x)) := by
  obtain ⟨h1, h2, h3, okM, okP, okT, v5, h4, h5, h6, h7, d1, d2, d3⟩ := h
  obtain ⟨cells, hty⟩ := Kd.R_typed h6 g3 rfl
  have hP := Kd.R_putn h6 (i : Int) x
  rw [Int.toNat_natCast] at hP
  have hok : okP g3 := h6.1 g3 rfl
  refine ⟨h1.setCell (p := ⟨g3, i, none⟩) (Kd.R_base h6 g3 rfl) _, ?_, h3, okM, okP, okT, v5, ?_, Kd.R_far (p := ⟨g3, i, none⟩) h5 (fun k hk e => (d1 k hk).1 (e ▸ hok)) _, hP, Kd.R_far (p := ⟨g3, i, none⟩) h7 (fun k hk e => (d2 g3 hok).1 (by have e' : k = g3 := e; rw [← e']; exact hk)) _, ?_, ?_, ?_⟩
  · rw [Below.heap_setCell _ _ _ _ (ne_type h2 hty (by decide))]; exact h2
  · rw [Below.heap_setCell _ _ _ _ (ne_type h4 hty (by decide))]; exact h4
  · simpa using d1
  · simpa using d2
  · simpa using d3
theorem Wk.app {v1 : Value} {x : Int} {ok : Nat → Prop} (h : Wk w0 X0 X1 b5 v2 v3 met P todo W) (hR : Kd.R (Kd.int .i64) 3 w1 w0.heap.size ok v1 (met ++ [x])) (hB : Below w0.heap.size w0 w1) (hg : W.grownBy w1 v2.ownBlock) (hat : v1.ownBlock = v2.ownBlock ∨ ∃ b, v1.ownBlock = some b ∧ W.heap.size ≤ b) : Wk w0 X0 X1 b5 v1 v3 (met ++ [x]) P todo w1 := by
  obtain ⟨h1, h2, h3, okM, okP, okT, v5, h4, h5, h6, h7, d1, d2, d3⟩ := h
  have hs := hg.size
  have hlt := Kd.R_lt hR
  have hM : ∀ k, v1.ownBlock = some k → okM k ∨ W.heap.size ≤ k := fun k hk => by
    rcases hat with e | ⟨b, e, hb⟩
    · exact .inl (h5.1 k (by rw [← e]; exact hk))
    · rw [e] at hk; cases hk; exact .inr hb
  refine ⟨hB, (hg.block _ (blk_lt h2) (Kd.R_ne h5 h2 (by decide))).trans h2, h3, fun k => v1.ownBlock = some k, okP, okT, v5, (hg.block _ (blk_lt h4) (Kd.R_ne h5 h4 (by decide))).trans h4, Kd.R_reok rfl hR (fun k hk => hk), ?_, ?_, fun k hk => ?_, fun k hk => ⟨(d2 k hk).1, Nat.lt_of_lt_of_le (d2 k hk).2 hs⟩, fun k hk => Nat.lt_of_lt_of_le (d3 k hk) hs⟩
  · exact Kd.R_grown h6 hg (fun k hk e => (d1 k (h5.1 k e.symm)).1 hk)
  · exact Kd.R_grown h7 hg (fun k hk e => (d1 k (h5.1 k e.symm)).2.1 hk)
  · rcases hM k hk with h8 | h8
    · exact ⟨(d1 k h8).1, (d1 k h8).2.1, hlt k hk⟩
    · exact ⟨fun h9 => by have := (d2 k h9).2; omega, fun h9 => by have := d3 k h9; omega, hlt k hk⟩
/-- Behind the loop that lays a node's arguments onto the stack. -/
theorem wk_push {L : List Int} {okM okP okT : Nat → Prop} (h1 : Below w0.heap.size w0 W) (h2 : W.heap[w0.heap.size]? = some (.cells #[X0, X1] 52 (0, 0))) (h3 : w0.heap.size ≤ b5) (hb : b5 < W.heap.size) (hne : b5 ≠ w0.heap.size) (h5 : Kd.R (Kd.int .i64) 3 W w0.heap.size okM v2 met) (h6 : Kd.R (Kd.int .i64) 3 W w0.heap.size okP v3 P)
    (d1 : ∀ k, okM k → ¬ okP k ∧ ¬ okT k ∧ k < W.heap.size) (d2 : ∀ k, okP k → ¬ okT k ∧ k < W.heap.size) (d3 : ∀ k, okT k → k < W.heap.size) (d4 : ¬ okT w0.heap.size) (d5 : ¬ okM b5) (d6 : ¬ okP b5) (hr : Rg w0.heap.size w0 W b5 okT todo.reverse (dn L L.length) w1) : Wk w0 X0 X1 b5 v2 v3 met P (L ++ todo) w1 := by
  obtain ⟨hk, hB, v, hv, hR⟩ := hr
  have hs := hk.1
  have e1 : todo.reverse ++ (dn L L.length).map (·.2) = (L ++ todo).reverse := by rw [dn_snd, List.reverse_append]
  rw [e1] at hR
  refine ⟨hB, (hk.2 _ (blk_lt h2) (fun h => h.elim (fun e => hne e.symm) d4)).trans h2, h3, okM, okP, fun k => (okT k ∨ W.heap.size ≤ k) ∧ k < w1.heap.size, v, hv, Kd.R_kept h5 hk (fun k hk1 h => ?_), Kd.R_kept h6 hk (fun k hk1 h => ?_), Kd.R_mono (Kd.R_bound hR) (fun k hk1 => ⟨hk1.1, hk1.2.2.1⟩), fun k hk1 => ⟨(d1 k hk1).1, fun h => ?_, Nat.lt_of_lt_of_le (d1 k hk1).2.2 hs⟩, fun k hk1 => ⟨fun h => ?_, Nat.lt_of_lt_of_le (d2 k hk1).2 hs⟩, fun k hk1 => hk1.2⟩
  · rcases h with rfl | h
    · exact d5 hk1
    · exact (d1 k hk1).2.1 h
  · rcases h with rfl | h
    · exact d6 hk1
    · exact (d2 k hk1).1 h
  · rcases h.1 with h | h
    · exact (d1 k hk1).2.1 h
    · have := (d1 k hk1).2.2; omega
  · rcases h.1 with h | h
    · exact (d2 k hk1).1 h
    · have := (d2 k hk1).2; omega
theorem MarksAt.below {n0 : Nat} {ds : List Nat} (h : MarksAt n0 ds W) (hb : Below W.heap.size W w1) : MarksAt n0 ds w1 := h.step (fun D hD => (hb.block D (Array.getElem?_eq_some_iff.1 hD).1).trans hD)
theorem MarksAt.set {n0 g t : Nat} {ds : List Nat} {cs : Array Value} (h : MarksAt n0 ds W) (hb : W.heap[g]? = some (.cells cs t (0, 0))) (i : Nat) (u : Value) : MarksAt n0 ds (W.setCell ⟨g, i, none⟩ u) := h.step (fun D hD => by
  rw [Below.heap_setCell _ _ _ _ (fun e => by
    have e' : D = g := e
    rw [e', hb] at hD
    cases hD)]
  exact hD)
theorem MarksAt.grown {n0 : Nat} {ds : List Nat} {v : Value} (h : MarksAt n0 ds W) (hg : W.grownBy w1 v.ownBlock) (hty : ∀ k, v.ownBlock = some k → ∃ cells, W.heap[k]? = some (.cells cells 3 (0, 0))) : MarksAt n0 ds w1 := h.step (fun D hD => by
  rw [hg.block D (Array.getElem?_eq_some_iff.1 hD).1 (fun e => by
    obtain ⟨cells, hc⟩ := hty D e.symm
    rw [hc] at hD
    cases hD)]
  exact hD)
theorem set_defer {g n D b : Nat} {v0 v1 : Value} {x : Value} (h : W.cell? ⟨g, n, none⟩ = some x) (hne : g ≠ b) (hD : (W.setCell ⟨b, 0, none⟩ v0).heap[D]? = some (.deferred (some []))) : ((W.setCell ⟨b, 0, none⟩ v0).setCell ⟨g, n, none⟩ v1).heap[D]? = some (.deferred (some [])) := by
  rw [Below.heap_setCell _ _ _ _ (fun e => ?_)]
  · exact hD
  · have e' : D = g := e
    subst e'
    rw [Below.heap_setCell _ _ _ _ (by simpa using hne)] at hD
    simp [World.cell?, hD] at h
theorem MarksAt.step2 {n0 g n b : Nat} {ds : List Nat} {v0 v1 v : Value} {x : Value} (h : MarksAt n0 ds (W.setCell ⟨b, 0, none⟩ v0)) (hc : W.cell? ⟨g, n, none⟩ = some x) (hne : g ≠ b) (hg : ((W.setCell ⟨b, 0, none⟩ v0).setCell ⟨g, n, none⟩ v1).grownBy w1 v.ownBlock) (hty : ∀ k, v.ownBlock = some k → ∃ cells, ((W.setCell ⟨b, 0, none⟩ v0).setCell ⟨g, n, none⟩ v1).heap[k]? = some (.cells cells 3 (0, 0))) : MarksAt n0 ds w1 :=
  (h.step (fun D hD => set_defer hc hne hD)).grown hg hty
theorem MarksAt.kept {n0 : Nat} {ds : List Nat} {S : Nat → Prop} (h : MarksAt n0 ds W) (hk : Kept W w1 S) (hty : ∀ k, S k → ∃ cells t, W.heap[k]? = some (.cells cells t (0, 0))) : MarksAt n0 ds w1 := h.step (fun D hD => by
  rw [hk.2 D (Array.getElem?_eq_some_iff.1 hD).1 (fun e => by
    obtain ⟨cells, t, hc⟩ := hty D e
    rw [hc] at hD
    cases hD)]
  exact hD)
theorem MarksAt.cons {n0 D : Nat} {ds : List Nat} (h : MarksAt n0 ds W) (hD : n0 ≤ D) (hd : W.heap[D]? = some (.deferred (some []))) (hlt : ∀ E ∈ ds, E < D) : MarksAt n0 (D :: ds) W :=
  ⟨List.nodup_cons.2 ⟨fun hm => by have := hlt D hm; omega, h.1⟩, fun E hE => by
    rcases List.mem_cons.1 hE with rfl | hE
    · exact ⟨hD, hd⟩
    · exact h.2 E hE⟩
theorem MarksAt.lt {n0 : Nat} {ds : List Nat} (h : MarksAt n0 ds W) : ∀ E ∈ ds, E < W.heap.size := fun E hE => (Array.getElem?_eq_some_iff.1 (h.2 E hE).2).1
/-- The stack's block alone. -/
theorem Wk.tight (h : Wk w0 X0 X1 b5 v2 v3 met P todo W) : ∃ (okM okP okT : Nat → Prop) (v5 : Value), W.heap[b5]? = some (.cells #[v5] 50 (0, 0)) ∧ Kd.R (Kd.int .i64) 3 W w0.heap.size okM v2 met ∧ Kd.R (Kd.int .i64) 3 W w0.heap.size okP v3 P ∧ Kd.R (Kd.int .i64) 3 W w0.heap.size okT v5 todo.reverse ∧
    (∀ k, okM k → ¬ okP k ∧ ¬ okT k ∧ k < W.heap.size) ∧ (∀ k, okP k → ¬ okT k ∧ k < W.heap.size) ∧ (∀ k, okT k → k < W.heap.size) ∧ (∀ k, okM k → ∃ cells, W.heap[k]? = some (.cells cells 3 (0, 0))) ∧ (∀ k, okP k → ∃ cells, W.heap[k]? = some (.cells cells 3 (0, 0))) ∧ (∀ k, okT k → w0.heap.size ≤ k ∧ ∃ cells, W.heap[k]? = some (.cells cells 3 (0, 0))) := by
  obtain ⟨okM, okP, okT, v5, h4, h5, h6, h7, d1, d2, d3⟩ := h.row
  exact ⟨fun k => some k = v2.ownBlock, fun k => some k = v3.ownBlock, fun k => some k = v5.ownBlock, v5, h4, Kd.R_tight rfl h5, Kd.R_tight rfl h6, Kd.R_tight rfl h7, fun k hk => ⟨fun e => (d1 k (h5.1 k hk.symm)).1 (h6.1 k e.symm), fun e => (d1 k (h5.1 k hk.symm)).2.1 (h7.1 k e.symm), Kd.R_lt h5 k hk.symm⟩, fun k hk => ⟨fun e => (d2 k (h6.1 k hk.symm)).1 (h7.1 k e.symm), Kd.R_lt h6 k hk.symm⟩, fun k hk => Kd.R_lt h7 k hk.symm, fun k hk => Kd.R_typed h5 k hk.symm, fun k hk => Kd.R_typed h6 k hk.symm, fun k hk => ⟨Kd.R_base h7 k hk.symm, Kd.R_typed h7 k hk.symm⟩⟩
end

end Go.Proofs.Ytgcjfobmccoibaa.Gr

/-! graph.walk, by its walk. What is asked: how the graph is read; that it is good. -/
set_option linter.unusedSimpArgs false
set_option linter.unusedVariables false
namespace Go.Proofs.Ytgcjfobmccoibaa.Gr
open Go.RowKit Go.Shelf Go.Proofs.YtgcjfobmccoibaaW.PrintWords Go.Proofs.YtgcjfobmccoibaaW.PrintLast Go.Proofs.YtgcjfobmccoibaaW.PrintMore
open Go.Proofs.Ytgcjfobmccoibaa.Nm

/-- The table of places while it is filled. -/
def fillL (N k : Nat) : List Int := List.replicate k (-1) ++ List.replicate (N - k) 0
theorem fillL_set {N k : Nat} (hk : k < N) : (fillL N k).set k (-1) = fillL N (k + 1) := by
  unfold fillL
  rw [List.set_append_right _ _ (by simp), show N - k = (N - (k + 1)) + 1 by omega, List.replicate_succ]
  simp [List.replicate_succ']
theorem fillL_length {N k : Nat} (hk : k ≤ N) : (fillL N k).length = N := by simp [fillL]; omega
theorem fillL_end (N : Nat) : fillL N N = pl N [] := by
  apply List.ext_getElem
  · simp [fillL, pl]
  · intro i h1 h2
    simp [fillL, pl]

theorem mu_start {N : Nat} {rs : List Int} (h1 : N ≤ 4096) (h2 : rs.length ≤ 4096) : mu N rs [] ≤ 50000 := by
  have : unmet N [] ≤ N := by
    unfold unmet
    exact Nat.le_trans (List.length_filter_le _ _) (by simp)
  unfold mu
  omega

attribute [local go_sem] Oper.semAt_some

set_option maxRecDepth 100000 in
set_option maxHeartbeats 2000000 in
theorem walk_calls (w : World) (A : Option Addr) (c : Nat) (ns : List S55) (A' : Option Addr) (c' : Nat) (rs : List Int) (h : IsG w A c ns A' c' rs) (hck : chk ns rs = []) (r : List Int) (hr : Run ns rs [] r) :
    Calls Try.prog 71 #[gv A c ns A' c' rs] w fun e w' => ∃ v2 v3, e = .returned (.tuple #[v2, v3]) ∧ Kd.R (Kd.int .i64) 3 w' w.heap.size (fun k => w.heap.size ≤ k ∧ some k ≠ v3.ownBlock) v2 r ∧ Kd.R (Kd.int .i64) 3 w' w.heap.size (fun k => w.heap.size ≤ k) v3 (pl ns.length r) ∧ Below w.heap.size w w' := by
  have hp := chk_parts hck
  obtain ⟨i0, hi0, hz0, hz1, hz2⟩ := info_parts PGraphChecks.info3
  have HG := Aside0.mk h
  clear h
  simp only [gv]
  refine (callsIn_wide (n := 3)).1 ?_
  refine callsIn_of_wp_marks Try.func71 rfl (by trivial) ?_ rfl
  simp only [Try.ntmps71, List.size_toArray, List.length_cons, List.length_nil, Nat.reduceAdd, Nat.reduceSub, Array.replicate_succ, Array.replicate_zero, List.push_toArray, List.append_toArray, List.nil_append, List.cons_append]
  refine wpIn_wide.2 ?_
  have HB0 := Aside0.mk (below_alloc (Below.refl w.heap.size w) (.cells #[.slice A ns.length c, .slice A' rs.length c'] 52))
  have HX0 := Aside0.mk (blk_last w (.cells #[.slice A ns.length c, .slice A' rs.length c'] 52))
  go_wp2_with (at_make; go_must (refine Kd.R_make (Kd.int .i64) (w0 := w) w.heap.size 3 rfl rfl 50 (.tmp 11) (.tmp 11) rfl (ns.length : Int) rfl rfl Try.underlying50 (.int .i64 0) 8 PGraphChecks.info3 rfl (by decide) (by decide) (0 : Int) (ok := fun k => w.heap.size + 1 ≤ k) (okp := fun _ => False) rfl (fun _ h => h.elim) (by simp) (by omega) (by simp; omega) HB0.out (by simp) ?_; intro v3 w1 hR3 hB1 hg1 hat1; obtain ⟨A3, c3, rfl⟩ := Kd.R_slice hR3; rw [List.length_replicate, Int.toNat_natCast] at *))
  have hX1 := (hg1.block _ (blk_lt HX0.out) (by simp)).trans HX0.out
  have HS0 : Aside0 (Below w.heap.size w w1 ∧ w1.heap[w.heap.size]? = some (.cells #[.slice A ns.length c, .slice A' rs.length c'] 52 (0, 0)) ∧ Kd.R (Kd.int .i64) 3 w1 w.heap.size (fun k => w.heap.size + 1 ≤ k) (.slice A3 ns.length c3) (fillL ns.length 0)) :=
    ⟨hB1, hX1, by simpa [fillL] using hR3⟩
  clear hR3 hB1 hg1 hat1 hX1 HB0 HX0
  go_loopw [15] (fun i wr => ∃ k : Nat, k ≤ ns.length ∧ i = .int .i64 (k : Int) ∧ Aside0 (Below w.heap.size w wr ∧ wr.heap[w.heap.size]? = some (.cells #[.slice A ns.length c, .slice A' rs.length c'] 52 (0, 0)) ∧ Kd.R (Kd.int .i64) 3 wr w.heap.size (fun k => w.heap.size + 1 ≤ k) (.slice A3 ns.length c3) (fillL ns.length k))) (fun i _ => ns.length - (intOf i).toNat)
  case atStart => exact ⟨0, Nat.zero_le _, rfl, HS0⟩
  case round =>
    clear HS0
    obtain ⟨k, hk, rfl, HS⟩ := hrel
    by_cases hlt : k < ns.length
    · obtain ⟨ad, hA3⟩ : ∃ ad, A3 = some ad := by
        obtain ⟨ad, c9, he⟩ := Kd.R_slice1 HS.out.2.2 (by rw [fillL_length hk]; omega)
        simp only [Value.slice.injEq] at he
        exact ⟨ad, he.1⟩
      subst hA3
      obtain ⟨g, rfl⟩ := Kd.R_head HS.out.2.2
      have hc := Kd.R_celln (0 : Int) HS.out.2.2 (k : Int) (by omega) (by omega)
      have hset := Kd.R_putn HS.out.2.2 (k : Int) (-1)
      rw [Int.toNat_natCast] at hc hset
      have hc1 := hc.1
      have hc2 := hc.2
      have hgb : w.heap.size + 1 ≤ g := HS.out.2.2.1 g rfl
      have HS1 : Aside0 (Below w.heap.size w (wr.setCell ⟨g, k, none⟩ (.int .i64 (-1))) ∧ (wr.setCell ⟨g, k, none⟩ (.int .i64 (-1))).heap[w.heap.size]? = some (.cells #[.slice A ns.length c, .slice A' rs.length c'] 52 (0, 0)) ∧ Kd.R (Kd.int .i64) 3 (wr.setCell ⟨g, k, none⟩ (.int .i64 (-1))) w.heap.size (fun k => w.heap.size + 1 ≤ k) (.slice (some ⟨g, 0, none⟩) ns.length c3) (fillL ns.length (k + 1))) :=
        ⟨HS.out.1.setCell (p := ⟨g, k, none⟩) (by simp; omega) _, (Below.heap_setCell _ _ _ _ (by simp; omega)).trans HS.out.2.1, by rw [← fillL_set hlt]; exact hset⟩
      clear hset hc HS
      go_wp2_with fail
      go_roundw
      case rel => exact ⟨k + 1, by omega, by go_num, HS1⟩
      case measure => simp [intOf]; omega
    · obtain rfl : k = ns.length := by omega
      have hx1 : wr.cell? ⟨w.heap.size, 1, none⟩ = some (.slice A' rs.length c') := blk_cell HS.out.2.1 1
      rw [fillL_end] at HS
      go_wp2_with fail
      refine (cloneI_calls _ A' c' rs (Kd.C_below HG.out.r HS.out.1) (by omega)).mono ?_
      rintro e w2 ⟨v5, rfl, hR5, hB2⟩
      obtain ⟨A5, c5, rfl⟩ := Kd.R_slice hR5
      have HS2 : Aside0 (Below w.heap.size w w2 ∧ w2.heap[w.heap.size]? = some (.cells #[.slice A ns.length c, .slice A' rs.length c'] 52 (0, 0)) ∧ Kd.R (Kd.int .i64) 3 w2 w.heap.size (fun k => w.heap.size + 1 ≤ k ∧ k < wr.heap.size) (.slice A3 ns.length c3) (pl ns.length []) ∧ Kd.R (Kd.int .i64) 3 w2 w.heap.size (fun k => wr.heap.size ≤ k ∧ k < w2.heap.size) (.slice A5 rs.length c5) rs) :=
        ⟨below_then HS.out.1 HS.out.1.size hB2, (hB2.block _ (blk_lt HS.out.2.1)).trans HS.out.2.1, Kd.R_below (R_lt HS.out.2.2) hB2, Kd.R_lower (R_lt hR5) HS.out.1.size⟩
      have hw0 := blk_lt HS.out.2.1
      have hw2 := hB2.size
      clear HS hR5 hB2 hx1
      go_wp2_with fail
      have hbl := blk_last w2 (.cells #[.slice A5 rs.length c5] 50)
      refine (rev_calls (fun k => wr.heap.size ≤ k ∧ k < w2.heap.size) (.slice A5 rs.length c5) rs (by omega) w (w2.alloc (.cells #[.slice A5 rs.length c5] 50)) (HS2.out.1.alloc HS2.out.1.size _) (Kd.R_below HS2.out.2.2.2 (below_alloc (Below.refl _ w2) _))).mono ?_
      rintro e w3 ⟨rfl, hR5, hB3, hK3⟩
      have HW0 : Aside0 (Wk w (.slice A ns.length c) (.slice A' rs.length c') w2.heap.size (.slice none 0 0) (.slice A3 ns.length c3) [] (pl ns.length []) rs w3) := by
        have hs3 := hK3.1
        rw [World.size_alloc] at hs3
        refine ⟨⟨hB3, ?_, by omega, fun _ => False, fun k => w.heap.size + 1 ≤ k ∧ k < wr.heap.size, fun k => (wr.heap.size ≤ k ∧ k < w2.heap.size) ∨ (w2.heap.size + 1 ≤ k ∧ k < w3.heap.size), .slice A5 rs.length c5, ?_, R_nilI _ _ _, ?_, ?_, fun _ h => h.elim, fun k hk => ⟨by omega, by omega⟩, fun k hk => by omega⟩⟩
        · exact (hK3.2 _ (by simp; omega) (by omega)).trans (blk_old _ HS2.out.2.1)
        · exact (hK3.2 _ (by simp) (by omega)).trans hbl
        · exact Kd.R_kept (Kd.R_below HS2.out.2.2.1 (below_alloc (Below.refl _ w2) _)) hK3 (fun k hk => by omega)
        · refine Kd.R_mono (R_lt hR5) (fun k hk => ?_)
          have h1 := hk.1
          have h2 := hk.2
          simp only [World.size_alloc] at h1
          omega
      clear HS2 hbl hR5 hB3 hK3
      go_wp2_with fail
      refine wp_loop_ghost (γ := List Int × List Int × List Nat × Value) (fun g a W => ∃ x6 x7 x8 x27 x28 x29 x30 x31 x32 x33 x34 x35 x36 x37 x38 x39 x40 x41 x42 x43 x44 x45 x46 x47 x48 x49 x50 x51 x52 x53 x54 x55 x56 x57 x58 x59 x60 x61 x62 x63 x64 x65 x66 x67 : Value, ∃ v2 : Value, v2 = g.2.2.2 ∧ a = { tmps := #[Value.agg #[.slice A ns.length c, .slice A' rs.length c'], .pointer (some ⟨w.heap.size, 0, none⟩), v2, .slice A3 ns.length c3, u4, .pointer (some ⟨w2.heap.size, 0, none⟩), x6, x7, x8, .pointer (some ⟨w.heap.size, 0, none⟩), .slice A ns.length c, .int .i64 (ns.length : Int), .slice A3 ns.length c3, .slice A3 ns.length c3, .int .i64 (ns.length : Int), .int .i64 (ns.length : Int), .bool false, u17, u18, u19, u20, u21, .pointer (some ⟨w.heap.size, 1, none⟩), .slice A' rs.length c', .slice A5 rs.length c5, .slice A5 rs.length c5, .tuple #[], x27, x28, x29, x30, x31, x32, x33, x34, x35, x36, x37, x38, x39, x40, x41, x42, x43, x44, x45, x46, x47, x48, x49, x50, x51, x52, x53, x54, x55, x56, x57, x58, x59, x60, x61, x62, x63, x64, x65, x66, x67, undef, undef], defers := marks g.2.2.1 } ∧
          Aside0 (Wk w (.slice A ns.length c) (.slice A' rs.length c') w2.heap.size v2 (.slice A3 ns.length c3) g.1 (pl ns.length g.1) g.2.1 W ∧ MarksAt w.heap.size g.2.2.1 W ∧ Run ns g.2.1 g.1 r ∧ allIn ns.length g.2.1 ∧ g.1.Nodup ∧ allIn ns.length g.1 ∧ mu ns.length g.2.1 g.1 ≤ 50000))
        (fun g => mu ns.length g.2.1 g.1) ([], rs, [], .slice none 0 0) ?_ ?_
      · exact ⟨_, _, _, _, _, _, _, _, _, _, _, _, _, _, _, _, _, _, _, _, _, _, _, _, _, _, _, _, _, _, _, _, _, _, _, _, _, _, _, _, _, _, _, _, _, rfl, rfl, ⟨HW0.out, ⟨List.nodup_nil, fun D hD => by simp at hD⟩, hr, fun a ha => by have := hp.2.2.2 a ha; simpa [inside] using this, List.nodup_nil, fun a ha => by simp at ha, mu_start hp.1 hp.2.1⟩⟩
      · rintro ⟨met, todo, ds, v9⟩ a W ⟨x6, x7, x8, x27, x28, x29, x30, x31, x32, x33, x34, x35, x36, x37, x38, x39, x40, x41, x42, x43, x44, x45, x46, x47, x48, x49, x50, x51, x52, x53, x54, x55, x56, x57, x58, x59, x60, x61, x62, x63, x64, x65, x66, x67, v2, hv9, rfl, HI⟩
        obtain rfl : v9 = v2 := hv9.symm
        clear hv9 HW0
        dsimp only at HI ⊢
        have HK := Aside0.mk HI.out.1
        have HMk := Aside0.mk HI.out.2.1
        have HJ := Aside0.mk HI.out.2.2
        clear HI
        obtain ⟨okM, okP, okT, v5, h5, hM, hP, hT, hd1, hd2, hd3, ht1, ht2, ht3⟩ := HK.out.tight
        obtain ⟨A6, c6, rfl⟩ := Kd.R_slice hT
        have hb5 : W.cell? ⟨w2.heap.size, 0, none⟩ = some (.slice A6 todo.reverse.length c6) := blk_cell h5 0
        have HR := Aside0.mk (And.intro hM (And.intro hP hT))
        have HD := Aside0.mk (And.intro hd1 (And.intro hd2 (And.intro hd3 (And.intro ht1 (And.intro ht2 ht3)))))
        clear hM hP hT hd1 hd2 hd3 ht1 ht2 ht3
        cases todo with
        | nil =>
          have hmr : met = r := by have := HJ.out.1; cases this; rfl
          subst hmr
          rw [List.reverse_nil, List.length_nil] at hb5
          go_wp2_with fail
          refine leaves_marks (n0 := w.heap.size) (fun W => Kd.R (Kd.int .i64) 3 W w.heap.size (fun k => w.heap.size ≤ k ∧ some k ≠ (Value.slice A3 ns.length c3).ownBlock) v9 met ∧ Kd.R (Kd.int .i64) 3 W w.heap.size (fun k => w.heap.size ≤ k) (.slice A3 ns.length c3) (pl ns.length met) ∧ Below w.heap.size w W) ?_ ?_ ds W HMk.out ?_
          · intro W' D hD hT' hd
            exact ⟨R_put hT'.1 hd, R_put hT'.2.1 hd, hT'.2.2.grown (grownBy_putObj' _ D _) hT'.2.2.size (fun k e => by cases e; exact hD)⟩
          · intro W' hT'
            refine ⟨.tuple #[v9, .slice A3 ns.length c3], ?_, v9, _, rfl, hT'⟩
            simp [results, Try.f71, go_sem]
          · have h1 := HR.out
            refine ⟨Kd.R_mono (Kd.R_bound h1.1) (fun k hk => ⟨hk.2.1, fun e => (HD.out.1 k hk.1).1 (h1.2.1.1 k e.symm)⟩), Kd.R_mono (Kd.R_bound h1.2.1) (fun k hk => hk.2.1), HK.out.bel⟩
        | cons n0 t =>
          have hnt := HJ.out.2.1 n0 (by simp)
          obtain ⟨n, rfl⟩ : ∃ n : Nat, n0 = (n : Int) := ⟨n0.toNat, by omega⟩
          have hnN : n < ns.length := by omega
          have hlen : ((n : Int) :: t).reverse.length = t.length + 1 := by simp
          rw [hlen] at hb5 HR
          have hT := HR.out.2.2
          have hT2 := (Kd.R_reads' hT).2.2.2.1
          rw [hlen] at hT2
          obtain ⟨ad6, c9, he6⟩ := Kd.R_slice1 hT (by simp)
          obtain ⟨rfl, -, rfl⟩ : A6 = some ad6 ∧ True ∧ c6 = c9 := by simpa using he6
          obtain ⟨g6, rfl⟩ := Kd.R_head hT
          have hc6 := (Kd.R_celln (0 : Int) hT (t.length : Int) (by omega) (by omega)).1
          have hrd : rdOf (0 : Int) ((n : Int) :: t).reverse (t.length : Int) = (n : Int) := by simp [rdOf]
          rw [hrd, Int.toNat_natCast] at hc6
          have hcap6 : t.length ≤ c6 := by have := (Kd.R_reads' hT).2.1; omega
          have hcap6' : t.length + 1 ≤ c6 := by have := (Kd.R_reads' hT).2.1; omega
          have hf5 : W.frozen? ⟨w2.heap.size, 0, none⟩ = false := by simp [World.frozen?, h5]
          clear hT hrd he6
          have hP := HR.out.2.1
          obtain ⟨ad3, c3', he3⟩ := Kd.R_slice1 hP (by rw [pl_length]; omega)
          rw [pl_length] at he3
          obtain ⟨rfl, -, rfl⟩ : A3 = some ad3 ∧ True ∧ c3 = c3' := by simpa using he3
          obtain ⟨g3, rfl⟩ := Kd.R_head hP
          have hc3 := Kd.R_celln (0 : Int) hP (n : Int) (by omega) (by omega)
          have hpl := pl_get met hnN
          rw [Int.toNat_natCast] at hc3
          have hc3a := hc3.1
          have hc3f := hc3.2
          rw [show rdOf (0 : Int) (pl ns.length met) (n : Int) = (pl ns.length met).getD n 0 from rfl] at hc3a
          have hg35 : g3 ≠ w2.heap.size := fun e => Kd.R_ne hP h5 (by decide) (by rw [e]; rfl)
          clear hc3 he3 hP
          have HK1 := Aside0.mk (HK.out.pop h5)
          have HM1 := Aside0.mk (HMk.out.set h5 0 (.slice (some ⟨g6, 0, none⟩) t.length c6))
          by_cases hmem : (n : Int) ∈ met
          · rw [hpl, if_pos hmem] at hc3a
            clear hpl
            generalize met.idxOf (n : Int) = j at hc3a
            have hge : decide (0 ≤ (j : Int)) = true := decide_eq_true (by omega)
            have hs3 : ∀ u, (W.setCell ⟨w2.heap.size, 0, none⟩ u).cell? ⟨g3, n, none⟩ = some (.int .i64 (j : Int)) := fun u => by rw [World.cell?_setCell_far _ _ _ _ (Ne.symm hg35)]; exact hc3a
            go_wp2_with fail
            refine ⟨(met, t, ds, v9), ⟨_, _, _, _, _, _, _, _, _, _, _, _, _, _, _, _, _, _, _, _, _, _, _, _, _, _, _, _, _, _, _, _, _, _, _, _, _, _, _, _, _, _, _, _, _, rfl, rfl, ⟨HK1.out, HM1.out, ?_, fun a ha => HJ.out.2.1 a (by simp [ha]), HJ.out.2.2.1, HJ.out.2.2.2.1, ?_⟩⟩, ?_⟩
            · have h1 := HJ.out.1
              cases h1 with
              | seen _ h2 => exact h2
              | new h2 _ => exact absurd hmem h2
            · have := HJ.out.2.2.2.2
              simp only [mu, List.length_cons] at this ⊢
              omega
            · simp only [mu, List.length_cons]
              omega
          · rw [hpl, if_neg hmem] at hc3a
            clear hpl
            have hge : decide (0 ≤ (-1 : Int)) = false := by decide
            have hs3 : ∀ u, (W.setCell ⟨w2.heap.size, 0, none⟩ u).cell? ⟨g3, n, none⟩ = some (.int .i64 (-1)) := fun u => by rw [World.cell?_setCell_far _ _ _ _ (Ne.symm hg35)]; exact hc3a
            obtain ⟨A2, c2, rfl⟩ := Kd.R_slice HR.out.1
            have hml : met.length ≤ 4096 := by
              have := nodup_len HJ.out.2.2.1 (m := upto ns.length) (fun x hx => upto_mem.2 (HJ.out.2.2.2.1 x hx))
              rw [upto_length] at this
              omega
            have HK2 := Aside0.mk (HK1.out.put n (met.length : Int))
            rw [← pl_set hmem] at HK2
            have HM2 : Aside0 (Kd.R (Kd.int .i64) 3 ((W.setCell ⟨w2.heap.size, 0, none⟩ (.slice (some ⟨g6, 0, none⟩) t.length c6)).setCell ⟨g3, n, none⟩ (.int .i64 (met.length : Int))) w.heap.size (fun _ => True) (.slice A2 met.length c2) met) := by
              obtain ⟨_, _, _, _, _, h, _⟩ := HK2.out.row
              exact ⟨Kd.R_mono h (fun _ _ => trivial)⟩
            have hnb := HK.out.bel.size
            have hL8 := (goodG_of hck (n : Int) (by omega) (by omega)).2
            go_wp2_with (at_builtin; go_must (refine Kd.R_append (Kd.int .i64) (w0 := w) (W := (W.setCell ⟨w2.heap.size, 0, none⟩ (.slice (some ⟨g6, 0, none⟩) t.length c6)).setCell ⟨g3, n, none⟩ (.int .i64 (met.length : Int))) w.heap.size rfl (.tmp 51) (.tmp 53) 50 3 (.int .i64 0) 8 rfl Try.underlying50 PGraphChecks.info3 rfl (by decide) (by decide) (.slice A2 met.length c2) met (n : Int) [.int .i64 n] (fun _ => True) (fun _ => False) rfl ?hx rfl (fun _ h => h.elim) (fun _ _ => trivial) HM2.out HK2.out.bel ?hb ?hl ?_; (case hx => simp [Act.eval, Act.put]); (case hb => simp; omega); (case hl => omega); intro v4 w4 hR4 hB4 hg4 hat4; obtain ⟨A4, c4, rfl⟩ := Kd.R_slice hR4; have HK4 := Aside0.mk (HK2.out.app hR4 hB4 hg4 hat4); have HM4 := Aside0.mk (HM1.out.step2 hc3a hg35 hg4 (fun k hk => Kd.R_typed HM2.out k hk)); clear hR4 hB4 hg4 hat4 HM2 HK2 HM1 HK1 hs3; obtain ⟨ad7, A7, c7, rfl, n0, n1, n2, n3, hl7, hC7⟩ := node_at HG.out.n hnN; obtain ⟨xn, hxn⟩ : ∃ xn, ns.getD n z55 = xn := ⟨_, rfl⟩; rw [hxn] at n0 n1 n2 n3 hl7 hC7; have HXN := Aside0.mk hxn; clear hxn n0 n1 n2; replace n3 := pw_cell_below HK4.out.bel n3; have hx0 : w4.cell? ⟨w.heap.size, 0, none⟩ = some (.slice (some ad7) ns.length c) := blk_cell HK4.out.gbox 0))
            have HC7 := Aside0.mk hC7
            clear hC7 h5 hb5 hf5
            have hargs : argsOf ns (n : Int) = xn.f3 := by rw [← HXN.out]; simp [argsOf]
            rw [hargs] at hL8
            generalize xn.f3 = L at *
            refine (back_calls w4 A7 L.length c7).mono ?_
            rintro e w5 ⟨rfl, rfl⟩
            have HK5 := HK4.out.below (below_alloc (Below.refl _ w4) (.cells #[.slice A7 L.length c7] 50))
            have HM5 := Aside0.mk (HM4.out.below (below_alloc (Below.refl _ w4) (.cells #[.slice A7 L.length c7] 50)))
            have hbx := blk_last w4 (.cells #[.slice A7 L.length c7] 50)
            have hC5 := HC7.out
            obtain ⟨oM, oP, oT, v5, h5, hM, hP, hT, hd1, hd2, hd3, ht1, ht2, ht3⟩ := HK5.tight
            have hb5lt := blk_lt h5
            have hnT : ∀ (k t' : Nat) (cs : Array Value), (w4.alloc (.cells #[.slice A7 L.length c7] 50)).heap[k]? = some (.cells cs t' (0, 0)) → t' ≠ 3 → ¬ oT k ∧ ¬ oM k ∧ ¬ oP k := fun k t' cs hk hne =>
              ⟨fun h => by obtain ⟨_, cl, hcl⟩ := ht3 k h; exact ne_type hk hcl hne rfl, fun h => by obtain ⟨cl, hcl⟩ := ht1 k h; exact ne_type hk hcl hne rfl, fun h => by obtain ⟨cl, hcl⟩ := ht2 k h; exact ne_type hk hcl hne rfl⟩
            have hbs5 : w4.heap.size ≠ w2.heap.size := by
              obtain ⟨_, _, _, _, h9, _⟩ := HK4.out.row
              have := blk_lt h9
              omega
            have hI0 : Rg w.heap.size w (w4.alloc (.cells #[.slice A7 L.length c7] 50)) w2.heap.size oT t.reverse [] (w4.alloc (.cells #[.slice A7 L.length c7] 50)) :=
              ⟨kept_refl _ _, HK5.bel, v5, h5, by rw [List.map_nil, List.append_nil]; exact Kd.R_mono hT (fun k hk => .inl hk)⟩
            have hmu := HJ.out.2.2.2.2
            simp only [mu, List.length_cons] at hmu
            have hnw : w.heap.size ≤ (w4.alloc (.cells #[.slice A7 L.length c7] 50)).heap.size := HK5.bel.size
            go_wp2_with fail
            refine (wpIn_wide (n := 3)).1 ?_
            refine' wpIn_rangeFunc_ownG rfl (by omega) (gf := 88) (lb := #[.pointer (some ⟨w4.heap.size, 0, none⟩)]) rfl (by trivial) (enters_of Try.func88 (by kernel_rfl) rfl)
              (back_stops Fence.wide _ trivial rfl (by omega) w _ w4.heap.size c7 A7 L (by omega) hC5 HK5.bel hbx) KpB.trans (KpB.put hnw (by simp)) (Below.refl _ _) (fun _ => rfl)
              (Rg w.heap.size w (w4.alloc (.cells #[.slice A7 L.length c7] 50)) w2.heap.size oT t.reverse) (fun _ _ _ => False) (rg_own _ _ _ _ _ (Nat.le_refl _) hnw) (fun _ _ _ _ _ hs _ _ => hs) hI0 _ ?assign ?body ?done ?stop
            case assign =>
              intro l x W K hK
              gi_wp2
              exact hK
            case stop =>
              rintro D c pre W _ _ h _
              exact h.elim
            case done =>
              rintro D ys X hD rfl hI hKD
              have HKe := Aside0.mk (wk_push (L := L) HK5.bel HK5.gbox HK5.lt5 hb5lt (ne_type h5 HK5.gbox (by decide)) hM hP hd1 hd2 hd3 (hnT _ _ _ HK5.gbox (by decide)).1 (hnT _ _ _ h5 (by decide)).2.1 (hnT _ _ _ h5 (by decide)).2.2 hI)
              have HMe := Aside0.mk ((HM5.out.kept hI.kept (fun k hk => hk.elim (fun e => by subst e; exact ⟨_, 50, h5⟩) (fun h => (ht3 k h).2.elim fun c hc => ⟨c, 3, hc⟩))).cons (Nat.le_trans hnw hD) hKD (fun E hE => Nat.lt_of_lt_of_le (HM5.out.lt E hE) hD))
              clear hI hD hKD hI0 hM hP hT hd1 hd2 hd3 ht1 ht2 ht3 hbx hC5 h5 hnT HK5 HM5 HK4 HM4
              have hrun := HJ.out.1
              have hrun2 : Run ns (L ++ t) (met ++ [(n : Int)]) r := by
                cases hrun with
                | seen h2 _ => exact absurd h2 hmem
                | new _ h2 => rw [hargs] at h2; exact h2
              have hgl := (goodG_of hck (n : Int) (by omega) (by omega)).1
              rw [hargs] at hgl
              have hu := unmet_lt (by omega : (0 : Int) ≤ (n : Int)) (by omega : (n : Int) < (ns.length : Int)) hmem
              go_wp2_with fail
              refine ⟨(met ++ [(n : Int)], L ++ t, D :: ds, _), ⟨_, _, _, _, _, _, _, _, _, _, _, _, _, _, _, _, _, _, _, _, _, _, _, _, _, _, _, _, _, _, _, _, _, _, _, _, _, _, _, _, _, _, _, _, _, rfl, rfl, ⟨by have h := HKe.out; rw [List.length_append, List.length_singleton] at h; exact h, HMe.out, hrun2, fun a ha => ?_, ?_, fun a ha => ?_, ?_⟩⟩, ?_⟩
              · rcases List.mem_append.1 ha with h | h
                · exact hgl a h
                · exact HJ.out.2.1 a (by simp [h])
              · rw [List.nodup_append]
                exact ⟨HJ.out.2.2.1, by simp, fun a ha b hb e => by obtain rfl := List.mem_singleton.1 hb; subst e; exact hmem ha⟩
              · rcases List.mem_append.1 ha with h | h
                · exact HJ.out.2.2.2.1 a h
                · obtain rfl := List.mem_singleton.1 h
                  omega
              · simp only [mu, List.length_append]
                omega
              · simp only [mu, List.length_append, List.length_cons]
                omega
            case body =>
              rintro l pre x X hI hlt
              obtain ⟨v, hv, hrow⟩ := hI.row
              have hxs := hI.kept.1
              obtain ⟨A9, c9, rfl⟩ := Kd.R_slice hrow
              have hm9 : (t.reverse ++ pre.map (·.2)).length = t.length + pre.length := by simp
              rw [hm9] at hv hrow
              have hc0 := hv.cell
              have HIX := Aside0.mk hI
              have HVX := Aside0.mk hv
              have HRX := Aside0.mk hrow
              have hown9 := (Kd.own_of_R hrow).alloc (.cells #[.int .i64 x.2] 3)
              rw [hm9] at hown9
              clear hI hv hrow
              gi_wp2_with (gi_at_builtin; go_must (refine wpListIn_append_own_at _ rfl (.tmp 64) (.tmp 66) 50 rfl w.heap.size 3 i0 (.int .i64 0) 1 8 Try.underlying50 hi0 hz0 hz1 hz2 rfl (by decide) (.slice A9 (t.length + pre.length) c9) (t.length + pre.length) _ rfl hown9 ⟨X.heap.size, 0, none⟩ 1 1 [.int .i64 x.2] rfl rfl (cell_one_new _ _ _) (by simp [Value.oneCell']) ?h63 ?hb ?hbase ?_; (case h63 => simp only [maxLen]; omega); (case hb => omega); (case hbase => simp at hnw hxs ⊢; omega); intro v' w6 hown' hgrow _ hat; obtain ⟨g', cap', rfl⟩ := ownsRow_succ hown'; obtain ⟨hv1, hI2, hk2, hkp⟩ := HIX.out.step HVX.out HRX.out HK5.lt5 hb5lt hnw (fun k hk => ⟨(ht3 k hk).1, hd3 k hk⟩) (by rw [hm9]; exact hown') hgrow hat; have hcc1 := hv1.cell; have hff1 := hv1.frozen))
              exact ⟨hk2.from _, hkp _ (blk_lt hbx) hbs5 (hnT _ _ _ hbx (by decide)).1, hI2⟩

end Go.Proofs.Ytgcjfobmccoibaa.Gr

/-! Reach of a graph, by its walk. What is asked: how the graph is read. -/
set_option linter.unusedSimpArgs false
set_option linter.unusedVariables false
namespace Go.Proofs.Ytgcjfobmccoibaa.Gr
open Go.RowKit Go.Proofs.YtgcjfobmccoibaaW.PrintWords Go.Proofs.YtgcjfobmccoibaaW.PrintLast Go.Proofs.YtgcjfobmccoibaaW.PrintMore
open Go.Proofs.Ytgcjfobmccoibaa.Nm

/-- A box of two cells, and what lay before. -/
structure P1 (w0 : World) (X0 X1 : Value) (w : World) : Prop where
  b : Below w0.heap.size w0 w
  x : w.heap[w0.heap.size]? = some (.cells #[X0, X1] 52 (0, 0))
theorem P1.below {w0 w w' : World} {X0 X1 : Value} (h : P1 w0 X0 X1 w) (hb : Below w.heap.size w w') : P1 w0 X0 X1 w' :=
  ⟨below_then h.b h.b.size hb, (hb.block _ (blk_lt h.x)).trans h.x⟩
theorem P1.cells {w0 w : World} {X0 X1 : Value} (h : P1 w0 X0 X1 w) : w.cell? ⟨w0.heap.size, 0, none⟩ = some X0 ∧ w.cell? ⟨w0.heap.size, 1, none⟩ = some X1 := ⟨blk_cell h.x 0, blk_cell h.x 1⟩
theorem p1_made (w : World) (X0 X1 : Value) : P1 w X0 X1 (w.alloc (.cells #[X0, X1] 52)) := ⟨(Below.refl w.heap.size w).alloc (Nat.le_refl _) _, blk_last w _⟩

set_option maxRecDepth 100000 in
set_option maxHeartbeats 1000000 in
theorem reach_good (w : World) (A : Option Addr) (c : Nat) (ns : List S55) (A' : Option Addr) (c' : Nat) (rs : List Int) (h : IsG w A c ns A' c' rs) (hck : chk ns rs = []) (r : List Int) (hr : Run ns rs [] r) :
    Calls Try.prog 40 #[gv A c ns A' c' rs] w fun e w' => ∃ v, e = .returned (.tuple #[v, .nilIface]) ∧ Kd.R (Kd.int .i64) 3 w' w.heap.size (fun k => w.heap.size ≤ k) v r ∧ Below w.heap.size w w' := by
  have HP := Aside0.mk (p1_made w (.slice A ns.length c) (.slice A' rs.length c'))
  have HG := Aside0.mk h
  clear h
  simp only [gv]
  go_enter Try.func40, Try.ntmps40
  go_wp2_with fail
  refine (check_calls _ A c ns A' c' rs (HG.out.below HP.out.b)).mono ?_
  rintro e w1 ⟨ev, rfl, he, hB1⟩
  obtain rfl := isErr_nil he hck
  have HP1 := Aside0.mk (HP.out.below hB1)
  obtain ⟨x0, x1⟩ := HP1.out.cells
  clear HP he hB1
  go_wp2_with fail
  refine (walk_calls _ A c ns A' c' rs (HG.out.below HP1.out.b) hck r hr).mono ?_
  rintro e w2 ⟨v2, v3, rfl, hR2, hR3, hB2⟩
  obtain ⟨A2, c2, rfl⟩ := Kd.R_slice hR2
  obtain ⟨A3, c3, rfl⟩ := Kd.R_slice hR3
  clear x0 x1
  go_wp2_with fail
  go_ret2
  have hs := HP1.out.b.size
  exact ⟨_, rfl, Kd.R_lower (Kd.R_mono hR2 (fun k hk => by have := hk.1; omega)) hs, below_then HP1.out.b hs hB2⟩
set_option maxRecDepth 100000 in
set_option maxHeartbeats 1000000 in
theorem reach_bad (w : World) (A : Option Addr) (c : Nat) (ns : List S55) (A' : Option Addr) (c' : Nat) (rs : List Int) (h : IsG w A c ns A' c' rs) (hck : chk ns rs ≠ []) :
    Calls Try.prog 40 #[gv A c ns A' c' rs] w fun e w' => ∃ ev, e = .returned (.tuple #[.slice none 0 0, ev]) ∧ IsErr w' (fun k => w.heap.size ≤ k) ev (chk ns rs) ∧ Below w.heap.size w w' := by
  have HP := Aside0.mk (p1_made w (.slice A ns.length c) (.slice A' rs.length c'))
  have HG := Aside0.mk h
  clear h
  simp only [gv]
  go_enter Try.func40, Try.ntmps40
  go_wp2_with fail
  refine (check_calls _ A c ns A' c' rs (HG.out.below HP.out.b)).mono ?_
  rintro e w1 ⟨ev, rfl, he, hB1⟩
  obtain ⟨b, rfl⟩ := isErr_some he hck
  have HE := Aside0.mk he
  have HB1 := Aside0.mk hB1
  clear he hB1
  go_wp2_with fail
  go_ret2
  have hs := HP.out.b.size
  exact ⟨_, rfl, HE.out.mono (fun k hk => by omega), below_then HP.out.b hs HB1.out⟩

end Go.Proofs.Ytgcjfobmccoibaa.Gr

/-! A graph of the call's own while it is built in a box: a node more, a root more. No program but the model's. -/
set_option linter.unusedSimpArgs false
set_option linter.unusedVariables false
namespace Go.Proofs.Ytgcjfobmccoibaa.Gr
open Go.RowKit Go.Proofs.YtgcjfobmccoibaaW.PrintWords Go.Proofs.YtgcjfobmccoibaaW.PrintLast Go.Proofs.YtgcjfobmccoibaaW.PrintMore
open Go.Proofs.Ytgcjfobmccoibaa.Nm
open Go.Proofs.Ytgcjfobmccoibaa.PGraphChecks (k55_mkM k55_mk info55 info3)

/-- Nodes and roots of the call's own, made since W0. -/
structure Ow (n0 : Nat) (W0 : World) (ms : List S55) (rl : List Int) (v0 v1 : Value) (w : World) : Prop where
  row : ∃ ok0 ok1 : Nat → Prop, Kd.S k55 55 w n0 ok0 v0 ms ∧ Kd.R (Kd.int .i64) 3 w n0 ok1 v1 rl ∧ (∀ k, ok0 k → W0.heap.size ≤ k ∧ k < w.heap.size ∧ ¬ ok1 k) ∧ (∀ k, ok1 k → W0.heap.size ≤ k ∧ k < w.heap.size)
/-- .. in the box bo, that lay in W0. -/
structure Ob (n0 : Nat) (w0 W0 : World) (bo : Nat) (ms : List S55) (rl : List Int) (v0 v1 : Value) (w : World) : Prop where
  bel : Below n0 w0 w
  kept : Kept W0 w (fun k => k = bo)
  box : w.heap[bo]? = some (.cells #[v0, v1] 52 (0, 0))
  own : Ow n0 W0 ms rl v0 v1 w

section
variable {n0 bo : Nat} {w0 W0 w w' W w1 : World} {ms : List S55} {rl : List Int} {v0 v1 : Value}
theorem Ow.below (h : Ow n0 W0 ms rl v0 v1 w) (hb : Below w.heap.size w w') : Ow n0 W0 ms rl v0 v1 w' := by
  obtain ⟨ok0, ok1, h1, h2, h3, h4⟩ := h.row
  have hs := hb.size
  exact ⟨ok0, ok1, Kd.S_below h1 hb, Kd.R_below h2 hb, fun k hk => ⟨(h3 k hk).1, Nat.lt_of_lt_of_le (h3 k hk).2.1 hs, (h3 k hk).2.2⟩, fun k hk => ⟨(h4 k hk).1, Nat.lt_of_lt_of_le (h4 k hk).2 hs⟩⟩
theorem Ow.reads (h : Ow n0 W0 ms rl v0 v1 w) : ∃ A c A' c', v0 = .slice A ms.length c ∧ v1 = .slice A' rl.length c' ∧ IsG w A c ms A' c' rl := by
  obtain ⟨ok0, ok1, h1, h2, _⟩ := h.row
  obtain ⟨A, c, rfl, l0, g0⟩ := Kd.S_reads h1
  obtain ⟨A', c', rfl, l1, g1⟩ := Kd.R_reads h2
  exact ⟨A, c, A', c', rfl, rfl, g0, g1, l0, l1⟩
theorem Ow.set (h : Ow n0 W0 ms rl v0 v1 w) {g t : Nat} {cs : Array Value} (hb : w.heap[g]? = some (.cells cs t (0, 0))) (h3 : t ≠ 3) (h55 : t ≠ 55) (j : Nat) (u : Value) : Ow n0 W0 ms rl v0 v1 (w.setCell ⟨g, j, none⟩ u) := by
  obtain ⟨ok0, ok1, h1, h2, d1, d2⟩ := h.row
  refine ⟨ok0, ok1, Kd.S_set h1 hb (fun q hq => ?_) j u, Kd.R_set h2 hb (fun q hq => ?_) j u, ?_, ?_⟩
  · have : q = 55 ∨ q = 3 := by simpa [k55, Kd.iso, Kd.pair, Kd.int, Kd.string, Kd.scalar, Kd.slice] using hq
    rcases this with rfl | rfl
    · exact Ne.symm h55
    · exact Ne.symm h3
  · have : q = 3 := by simpa [Kd.int, Kd.scalar] using hq
    subst this
    exact Ne.symm h3
  · simpa using d1
  · simpa using d2
theorem Ob.below (h : Ob n0 w0 W0 bo ms rl v0 v1 w) (hn : n0 ≤ W0.heap.size) (hb : Below w.heap.size w w') : Ob n0 w0 W0 bo ms rl v0 v1 w' :=
  ⟨below_then h.bel (Nat.le_trans hn h.kept.1) hb, ⟨Nat.le_trans h.kept.1 hb.size, fun i hi hn => (hb.block i (Nat.lt_of_lt_of_le hi h.kept.1)).trans (h.kept.2 i hi hn)⟩, (hb.block _ (blk_lt h.box)).trans h.box, h.own.below hb⟩
theorem ob_start (hB : Below n0 w0 W0) (hbox : W0.heap[bo]? = some (.cells #[.slice none 0 0, .slice none 0 0] 52 (0, 0))) : Ob n0 w0 W0 bo [] [] (.slice none 0 0) (.slice none 0 0) W0 :=
  ⟨hB, kept_refl _ _, hbox, ⟨fun _ => False, fun _ => False, Kd.S_nil _ _ _ _ _, R_nilI _ _ _, fun _ h => h.elim, fun _ h => h.elim⟩⟩

variable {ops : Array Oper} {rest : List Oper} {o : Oper} {a : Act} {Q : Exit → Act → World → Prop}
theorem set_box (hbox : w.heap[bo]? = some (.cells #[v0, v1] 52 (0, 0))) (u : Value) : (w.setCell ⟨bo, 0, none⟩ u).heap[bo]? = some (.cells #[u, v1] 52 (0, 0)) ∧ (w.setCell ⟨bo, 1, none⟩ u).heap[bo]? = some (.cells #[v0, u] 52 (0, 0)) :=
  ⟨blk_put (cs := #[v0, v1]) hbox 0 u rfl, blk_put (cs := #[v0, v1]) hbox 1 u rfl⟩
/-- A node more: W is the world behind what made the node's list v3. -/
theorem wp_push2 (hn : n0 ≤ W0.heap.size) (hnb : n0 ≤ bo) (hbo : bo < W0.heap.size) (h : Ob n0 w0 W0 bo ms rl v0 v1 w) (hb : Below w.heap.size w W) (x : S55) (v3 : Value) (hR : Kd.R (Kd.int .i64) 3 W n0 (fun k => w.heap.size ≤ k) v3 x.f3)
    (hgd : o.guard = none) (s y : Operand) (ho : o.op = .call { callee := .builtin .append, args := #[s, y], argTypes := #[49, 49] }) (hs : a.eval s = v0) (hx : a.eval y = .slice (some ⟨W.heap.size, 0, none⟩) 1 1) (hl : ms.length ≤ 10000)
    (hK : ∀ A c w1, w1.heap[bo]? = some (.cells #[v0, v1] 52 (0, 0)) → Ob n0 w0 W0 bo (ms ++ [x]) rl (.slice A (ms.length + 1) c) v1 (w1.setCell ⟨bo, 0, none⟩ (.slice A (ms.length + 1) c)) → (∀ (g : Nat) (cs : Array Value), g ≠ bo → w.heap[g]? = some (.cells cs 52 (0, 0)) → (w1.setCell ⟨bo, 0, none⟩ (.slice A (ms.length + 1) c)).heap[g]? = some (.cells cs 52 (0, 0))) → wpList Try.prog ops Q rest (a.put o.dst (.slice A (ms.length + 1) c)) w1) :
    wpList Try.prog ops Q (o :: rest) a (W.alloc (.cells #[.int .i64 x.f0, .string x.f1, .int .i64 x.f2, v3] 55)) := by
  have hW := h.below hn hb
  have hsw := hb.size
  obtain ⟨ok0, ok1, h1, h2, d1, d2⟩ := h.own.row
  have hlt3 := Kd.R_lt hR
  have hk3 : Kd.R (Kd.int .i64) 3 W n0 (fun k => some k = v3.ownBlock) v3 x.f3 := Kd.R_tight rfl hR
  have h3ok : ∀ k, some k = v3.ownBlock → w.heap.size ≤ k ∧ k < W.heap.size := fun k hk => ⟨hR.1 k hk.symm, hlt3 k hk.symm⟩
  have h0W := Kd.S_below h1 hb
  have h1W := Kd.R_below h2 hb
  refine Kd.S_append k55 (w0 := w0) (W := W) n0 hgd s y 49 55 (.agg #[(.int .i64 0), (.string ⟨#[]⟩), (.int .i64 0), (.slice none 0 0)]) 56 ho Try.underlying49 info55 rfl (by decide) (by decide) v0 ms x [.int .i64 x.f0, .string x.f1, .int .i64 x.f2, v3] (fun k => ok0 k ∨ w.heap.size ≤ k) (fun k => some k = v3.ownBlock) hs hx (k55_mkM W n0 _ x hk3) (fun k hk => ⟨.inr (h3ok k hk).1, fun e => ?_⟩) (fun k hk => .inr (Nat.le_trans hsw hk)) (Kd.S_mono h0W (fun k hk => ⟨.inl hk, fun e => ?_⟩)) hW.bel (Nat.le_trans hn hW.kept.1) (by omega) ?_
  · have := Kd.S_lt h1 k e.symm
    have := (h3ok k hk).1
    omega
  · have := (h3ok k e).1
    have := (d1 k hk).2.1
    omega
  · intro u w1 hS hB1 hg hat
    obtain ⟨A, c, rfl⟩ := Kd.S_slice hS
    rw [List.length_append, List.length_singleton] at hS hat ⊢
    have hs1 := hg.size
    have hbox1 : w1.heap[bo]? = some (.cells #[v0, v1] 52 (0, 0)) := (hg.block _ (blk_lt hW.box) (Kd.S_ne h0W hW.box (by decide))).trans hW.box
    refine hK A c w1 hbox1 ⟨hB1.setCell (p := ⟨bo, 0, none⟩) hnb _, ?_, (set_box hbox1 _).1, Ow.set (v1 := v1) ?_ hbox1 (by decide) (by decide) 0 _⟩ (fun g cs hne hg52 => by
      have hgW := (hb.block _ (blk_lt hg52)).trans hg52
      rw [Below.heap_setCell _ _ _ _ (by simpa using hne)]
      exact (hg.block _ (blk_lt hgW) (Kd.S_ne h0W hgW (by decide))).trans hgW)
    · refine ⟨by simpa using Nat.le_trans hW.kept.1 hs1, fun i hi hne => ?_⟩
      rw [Below.heap_setCell _ _ _ _ (by simpa using hne), hg.block i (Nat.lt_of_lt_of_le hi hW.kept.1) (fun e => ?_)]
      · exact hW.kept.2 i hi hne
      · have := (d1 i ((Kd.S_R h1).1 i e.symm)).1
        omega
    · have hlt := Kd.S_lt h1
      refine ⟨fun k => (ok0 k ∨ w.heap.size ≤ k ) ∧ ¬ ok1 k ∧ k < w1.heap.size, ok1, ?_, ?_, ?_, ?_⟩
      · refine Kd.S_mono (Kd.S_bound hS) (fun k hk => ⟨hk.1, fun e => ?_, hk.2.2.1⟩)
        rcases hk.1 with h5 | h5
        · exact (d1 k h5).2.2 e
        · have := (d2 k e).2
          omega
      · exact Kd.R_grown h1W hg (fun k hk e => (d1 k ((Kd.S_R h1).1 k e.symm)).2.2 hk)
      · rintro k ⟨h5 | h5, h6, h7⟩
        · exact ⟨(d1 k h5).1, h7, h6⟩
        · exact ⟨Nat.le_trans h.kept.1 h5, h7, h6⟩
      · exact fun k hk => ⟨(d2 k hk).1, Nat.lt_of_lt_of_le (d2 k hk).2 (Nat.le_trans hsw hs1)⟩
/-- A node more: W is the world behind what made the node's list v3. -/
theorem wp_push (hn : n0 ≤ W0.heap.size) (hnb : n0 ≤ bo) (hbo : bo < W0.heap.size) (h : Ob n0 w0 W0 bo ms rl v0 v1 w) (hb : Below w.heap.size w W) (x : S55) (v3 : Value) (hR : Kd.R (Kd.int .i64) 3 W n0 (fun k => w.heap.size ≤ k) v3 x.f3)
    (hgd : o.guard = none) (s y : Operand) (ho : o.op = .call { callee := .builtin .append, args := #[s, y], argTypes := #[49, 49] }) (hs : a.eval s = v0) (hx : a.eval y = .slice (some ⟨W.heap.size, 0, none⟩) 1 1) (hl : ms.length ≤ 10000)
    (hK : ∀ A c w1, w1.heap[bo]? = some (.cells #[v0, v1] 52 (0, 0)) → Ob n0 w0 W0 bo (ms ++ [x]) rl (.slice A (ms.length + 1) c) v1 (w1.setCell ⟨bo, 0, none⟩ (.slice A (ms.length + 1) c)) → wpList Try.prog ops Q rest (a.put o.dst (.slice A (ms.length + 1) c)) w1) :
    wpList Try.prog ops Q (o :: rest) a (W.alloc (.cells #[.int .i64 x.f0, .string x.f1, .int .i64 x.f2, v3] 55)) :=
  wp_push2 hn hnb hbo h hb x v3 hR hgd s y ho hs hx hl (fun A c w1 h1 h2 _ => hK A c w1 h1 h2)
/-- A root more. -/
theorem wp_root (hn : n0 ≤ W0.heap.size) (hnb : n0 ≤ bo) (hbo : bo < W0.heap.size) (h : Ob n0 w0 W0 bo ms rl v0 v1 w) (hb : Below w.heap.size w W) (x : Int)
    (hgd : o.guard = none) (s y : Operand) (ho : o.op = .call { callee := .builtin .append, args := #[s, y], argTypes := #[50, 50] }) (hs : a.eval s = v1) (hx : a.eval y = .slice (some ⟨W.heap.size, 0, none⟩) 1 1) (hl : rl.length ≤ 10000)
    (hK : ∀ A c w1, w1.heap[bo]? = some (.cells #[v0, v1] 52 (0, 0)) → Ob n0 w0 W0 bo ms (rl ++ [x]) v0 (.slice A (rl.length + 1) c) (w1.setCell ⟨bo, 1, none⟩ (.slice A (rl.length + 1) c)) → (∀ (g : Nat) (cs : Array Value), g ≠ bo → w.heap[g]? = some (.cells cs 52 (0, 0)) → (w1.setCell ⟨bo, 1, none⟩ (.slice A (rl.length + 1) c)).heap[g]? = some (.cells cs 52 (0, 0))) → wpList Try.prog ops Q rest (a.put o.dst (.slice A (rl.length + 1) c)) w1) :
    wpList Try.prog ops Q (o :: rest) a (W.alloc (.cells #[.int .i64 x] 3)) := by
  have hW := h.below hn hb
  have hsw := hb.size
  obtain ⟨ok0, ok1, h1, h2, d1, d2⟩ := h.own.row
  have h0W := Kd.S_below h1 hb
  have h1W := Kd.R_below h2 hb
  refine Kd.R_append (Kd.int .i64) (w0 := w0) (W := W) n0 hgd s y 50 3 (.int .i64 0) 8 ho Try.underlying50 info3 rfl (by decide) (by decide) v1 rl x [.int .i64 x] (fun k => ok1 k ∨ w.heap.size ≤ k) (fun _ => False) hs hx rfl (fun _ h => h.elim) (fun k hk => .inr (Nat.le_trans hsw hk)) (Kd.R_mono h1W (fun k hk => .inl hk)) hW.bel (Nat.le_trans hn hW.kept.1) (by omega) ?_
  intro u w1 hR hB1 hg hat
  obtain ⟨A, c, rfl⟩ := Kd.R_slice hR
  rw [List.length_append, List.length_singleton] at hR hat ⊢
  have hs1 := hg.size
  have hbox1 : w1.heap[bo]? = some (.cells #[v0, v1] 52 (0, 0)) := (hg.block _ (blk_lt hW.box) (Kd.R_ne h1W hW.box (by decide))).trans hW.box
  refine hK A c w1 hbox1 ⟨hB1.setCell (p := ⟨bo, 1, none⟩) hnb _, ?_, (set_box hbox1 _).2, Ow.set (v0 := v0) ?_ hbox1 (by decide) (by decide) 1 _⟩ (fun g cs hne hg52 => by
    have hgW := (hb.block _ (blk_lt hg52)).trans hg52
    rw [Below.heap_setCell _ _ _ _ (by simpa using hne)]
    exact (hg.block _ (blk_lt hgW) (Kd.R_ne h1W hgW (by decide))).trans hgW)
  · refine ⟨by simpa using Nat.le_trans hW.kept.1 hs1, fun i hi hne => ?_⟩
    rw [Below.heap_setCell _ _ _ _ (by simpa using hne), hg.block i (Nat.lt_of_lt_of_le hi hW.kept.1) (fun e => ?_)]
    · exact hW.kept.2 i hi hne
    · have := (d2 i (h2.1 i e.symm)).1
      omega
  · refine ⟨ok0, fun k => (ok1 k ∨ w.heap.size ≤ k) ∧ ¬ ok0 k ∧ k < w1.heap.size, ?_, ?_, ?_, ?_⟩
    · exact Kd.S_grown h0W hg (fun k hk e => (d1 k hk).2.2 (h2.1 k e.symm))
    · refine Kd.R_mono (Kd.R_bound hR) (fun k hk => ⟨hk.1, fun e => ?_, hk.2.2.1⟩)
      rcases hk.1 with h5 | h5
      · exact (d1 k e).2.2 h5
      · have := (d1 k e).2.1
        omega
    · exact fun k hk => ⟨(d1 k hk).1, Nat.lt_of_lt_of_le (d1 k hk).2.1 (Nat.le_trans hsw hs1), fun e => e.2.1 hk⟩
    · rintro k ⟨h5 | h5, h6, h7⟩
      · exact ⟨(d2 k h5).1, h7⟩
      · exact ⟨Nat.le_trans h.kept.1 h5, h7⟩
/-- All roots at once: W is the world behind what made their list u. -/
theorem Ob.roots (hn : n0 ≤ W0.heap.size) (hnb : n0 ≤ bo) (h : Ob n0 w0 W0 bo ms rl v0 v1 w) (hb : Below w.heap.size w W) {u : Value} {l : List Int} (hR : Kd.R (Kd.int .i64) 3 W n0 (fun k => w.heap.size ≤ k) u l) : Ob n0 w0 W0 bo ms l v0 u (W.setCell ⟨bo, 1, none⟩ u) := by
  have hW := h.below hn hb
  obtain ⟨ok0, ok1, h1, h2, d1, d2⟩ := h.own.row
  refine ⟨hW.bel.setCell (p := ⟨bo, 1, none⟩) hnb _, ⟨by simpa using hW.kept.1, fun i hi hne => ?_⟩, (set_box hW.box _).2, Ow.set (v0 := v0) ?_ hW.box (by decide) (by decide) 1 _⟩
  · rw [Below.heap_setCell _ _ _ _ (by simpa using hne)]
    exact hW.kept.2 i hi hne
  · refine ⟨ok0, fun k => w.heap.size ≤ k ∧ k < W.heap.size, Kd.S_below h1 hb, Kd.R_mono (Kd.R_bound hR) (fun k hk => ⟨hk.1, hk.2.2.1⟩), fun k hk => ⟨(d1 k hk).1, Nat.lt_of_lt_of_le (d1 k hk).2.1 hb.size, fun e => by have := (d1 k hk).2.1; omega⟩, fun k hk => ⟨Nat.le_trans h.kept.1 hk.1, hk.2⟩⟩
end

end Go.Proofs.Ytgcjfobmccoibaa.Gr

/-! Trim of a graph, by its walk. What is asked: how the graph is read. -/
set_option linter.unusedSimpArgs false
set_option linter.unusedVariables false
namespace Go.Proofs.Ytgcjfobmccoibaa.Gr
open Go.RowKit Go.Proofs.YtgcjfobmccoibaaW.PrintWords Go.Proofs.YtgcjfobmccoibaaW.PrintLast Go.Proofs.YtgcjfobmccoibaaW.PrintMore
open Go.Proofs.Ytgcjfobmccoibaa.Nm

theorem Ow.mono {n0 : Nat} {W0 W1 w : World} {ms : List S55} {rl : List Int} {v0 v1 : Value} (h : Ow n0 W1 ms rl v0 v1 w) (hs : W0.heap.size ≤ W1.heap.size) : Ow n0 W0 ms rl v0 v1 w := by
  obtain ⟨ok0, ok1, h1, h2, d1, d2⟩ := h.row
  exact ⟨ok0, ok1, h1, h2, fun k hk => ⟨Nat.le_trans hs (d1 k hk).1, (d1 k hk).2⟩, fun k hk => ⟨Nat.le_trans hs (d2 k hk).1, (d2 k hk).2⟩⟩
theorem trimL_take {ns : List S55} {r : List Int} {k : Nat} (hk : k < r.length) : (trimL ns r).take (k + 1) = (trimL ns r).take k ++ [trimN ns r (r.getD k 0)] := by
  rw [List.take_succ_eq_append_getElem (by simpa [trimL] using hk)]
  simp [trimL, hk]

set_option maxRecDepth 100000 in
set_option maxHeartbeats 2000000 in
theorem trim_good (w : World) (A : Option Addr) (c : Nat) (ns : List S55) (A' : Option Addr) (c' : Nat) (rs : List Int) (h : IsG w A c ns A' c' rs) (hck : chk ns rs = []) (r : List Int) (hr : Run ns rs [] r) :
    Calls Try.prog 39 #[gv A c ns A' c' rs] w fun e w' => ∃ v0 v1, e = .returned (.tuple #[.agg #[v0, v1], .nilIface]) ∧ Ow w.heap.size w (trimL ns r) (rs.map (at0 r)) v0 v1 w' ∧ Below w.heap.size w w' := by
  have hp := chk_parts hck
  have hg := goodG_of hck
  have hri : allIn ns.length r := run_in hg hr (fun x hx => by simp at hx) (fun x hx => by simpa [inside] using hp.2.2.2 x hx)
  have hrn : r.length ≤ ns.length := by
    have := nodup_len (From.nodup hr) (m := upto ns.length) (fun x hx => upto_mem.2 (hri x hx))
    rwa [upto_length] at this
  have HG := Aside0.mk h
  have HP0 := Aside0.mk ((p1_made w (.slice A ns.length c) (.slice A' rs.length c')).below (below_alloc (Below.refl _ _) (.cells #[.slice none 0 0, .slice none 0 0] 52)))
  have HS0 := Aside0.mk (blk_last (w.alloc (.cells #[.slice A ns.length c, .slice A' rs.length c'] 52)) (.cells #[.slice none 0 0, .slice none 0 0] 52))
  rw [World.size_alloc] at HS0
  clear h
  simp only [gv]
  go_enter Try.func39, Try.ntmps39
  go_wp2_with fail
  refine (check_calls _ A c ns A' c' rs (HG.out.below HP0.out.b)).mono ?_
  rintro e w1 ⟨ev, rfl, he, hB1⟩
  obtain rfl := isErr_nil he hck
  have HP1 := Aside0.mk (HP0.out.below hB1)
  have HS1 := Aside0.mk ((hB1.block _ (blk_lt HS0.out)).trans HS0.out)
  obtain ⟨x0, x1⟩ := HP1.out.cells
  clear HP0 HS0 he hB1
  go_wp2_with fail
  refine (walk_calls _ A c ns A' c' rs (HG.out.below HP1.out.b) hck r hr).mono ?_
  rintro e w2 ⟨v2, v3, rfl, hR2, hR3, hB2⟩
  obtain ⟨A2, c2, rfl⟩ := Kd.R_slice hR2
  obtain ⟨A3, c3, rfl⟩ := Kd.R_slice hR3
  rw [pl_length] at hR3 ⊢
  have HP2 := Aside0.mk ((HP1.out.below hB2).below (below_alloc (Below.refl _ _) (.cells #[.slice none 0 0, .slice none 0 0] 52)))
  have HS2 := Aside0.mk (blk_old (.cells #[.slice none 0 0, .slice none 0 0] 52) ((hB2.block _ (blk_lt HS1.out)).trans HS1.out))
  have hR2b := Kd.R_below (R_lt hR2) (below_alloc (Below.refl _ w2) (.cells #[.slice none 0 0, .slice none 0 0] 52))
  have hR3b := Kd.R_below (R_lt hR3) (below_alloc (Below.refl _ w2) (.cells #[.slice none 0 0, .slice none 0 0] 52))
  have HM : Aside0 (∀ wr, Kept (w2.alloc (.cells #[.slice none 0 0, .slice none 0 0] 52)) wr (fun k => k = w2.heap.size) → Kd.C (Kd.int .i64) wr A2 r.length r ∧ Kd.C (Kd.int .i64) wr A3 ns.length (pl ns.length r) ∧ ns.length ≤ c3) :=
    ⟨fun wr hk => ⟨(Kd.R_reads' (Kd.R_kept hR2b hk (fun k hk => by omega))).2.2, by have := (Kd.R_reads' (Kd.R_kept hR3b hk (fun k hk => by omega))).2.2; rwa [pl_length] at this, (Kd.R_reads' (Kd.R_kept hR3b hk (fun k hk => by omega))).2.1⟩⟩
  have HO0 : Aside0 (Ob w.heap.size w (w2.alloc (.cells #[.slice none 0 0, .slice none 0 0] 52)) w2.heap.size [] [] (.slice none 0 0) (.slice none 0 0) (w2.alloc (.cells #[.slice none 0 0, .slice none 0 0] 52))) := ⟨ob_start HP2.out.b (blk_last w2 _)⟩
  have hn2 := HP2.out.b.size
  have hw2 : w.heap.size < w2.heap.size := by have := hB2.size; have := blk_lt HP1.out.x; omega
  have hw2' : w.heap.size + 1 < w2.heap.size := by have := hB2.size; have := blk_lt HS1.out; omega
  clear hR2 hR3 hB2 hR2b hR3b x0 x1
  go_wp2_with fail
  go_loopw [24] (fun i wr => ∃ (k : Nat) (v0 : Value), k ≤ r.length ∧ i = .int .i64 (k : Int) ∧ Aside0 (Ob w.heap.size w (w2.alloc (.cells #[.slice none 0 0, .slice none 0 0] 52)) w2.heap.size ((trimL ns r).take k) [] v0 (.slice none 0 0) wr)) (fun i _ => r.length - (intOf i).toNat)
  case atStart => exact ⟨0, _, Nat.zero_le _, rfl, by rw [List.take_zero]; exact HO0⟩
  case round =>
    clear HO0
    obtain ⟨k, v0, hk, rfl, HO⟩ := hrel
    have hlk : ((trimL ns r).take k).length = k := by simp [trimL_length]; omega
    obtain ⟨A0, c0, rfl⟩ : ∃ A0 c0, v0 = .slice A0 k c0 := by
      obtain ⟨A0, c0, A1, c1, e, _⟩ := HO.out.own.reads
      exact ⟨A0, c0, by rw [e, hlk]⟩
    have hgx : wr.heap[w.heap.size]? = some (.cells #[.slice A ns.length c, .slice A' rs.length c'] 52 (0, 0)) := (HO.out.kept.2 _ (blk_lt HP2.out.x) (by omega)).trans HP2.out.x
    have x0 : wr.cell? ⟨w.heap.size, 0, none⟩ = some (.slice A ns.length c) := blk_cell hgx 0
    have x1 : wr.cell? ⟨w.heap.size, 1, none⟩ = some (.slice A' rs.length c') := blk_cell hgx 1
    have y0 : wr.cell? ⟨w2.heap.size, 0, none⟩ = some (.slice A0 k c0) := blk_cell HO.out.box 0
    have HGX := Aside0.mk hgx
    have hwr := blk_lt HO.out.box
    clear hgx
    by_cases hlt : k < r.length
    · have hmem : r.getD k 0 ∈ r := getD_mem hlt
      have hni := hri _ hmem
      have HT := Aside0.mk (trimL_take (ns := ns) hlt)
      have hcl := From.closed hr _ hmem
      obtain ⟨ad, cc, rfl, hcll, hK, hcc⟩ := Kd.C_get (HM.out wr HO.out.kept).1 0 (k : Int) (by omega) (by omega)
      have hK' : cc = [.int .i64 (r.getD k 0)] := hK
      subst hK'
      have hx : wr.cell? (ad.add k) = some (.int .i64 (r.getD k 0)) := by
        have := hcc 0 _ rfl
        simpa [Kd.int, Kd.scalar] using this
      clear hK hcll hcc
      generalize r.getD k 0 = n0 at *
      obtain ⟨n, rfl⟩ : ∃ n : Nat, n0 = (n : Int) := ⟨n0.toNat, by omega⟩
      have hnN : n < ns.length := by omega
      have hga := hg (n : Int) (by omega) (by omega)
      obtain ⟨ad7, A7, c7, rfl, n0, n1, n2, n3, hl7, hC7⟩ := node_at HG.out.n hnN
      obtain ⟨x, hxn⟩ : ∃ x, ns.getD n z55 = x := ⟨_, rfl⟩
      have hargs : argsOf ns (n : Int) = x.f3 := by rw [← hxn]; simp [argsOf]
      have htn : trimN ns r (n : Int) = ⟨x.f0, x.f1, x.f2, x.f3.map (at0 r)⟩ := by
        unfold trimN
        rw [hargs, Int.toNat_natCast, hxn]
      rw [hargs] at hga hcl
      have hmv := movedL_pl hga.1 hcl
      rw [htn, ← hmv] at HT
      rw [hxn] at n0 n1 n2 n3 hl7 hC7
      replace n0 := pw_cell_below HO.out.bel n0
      replace n1 := pw_cell_below HO.out.bel n1
      replace n2 := pw_cell_below HO.out.bel n2
      replace n3 := pw_cell_below HO.out.bel n3
      have HC7 := Aside0.mk hC7
      clear hxn hargs htn hmv hcl hmem hC7
      go_wp2_with fail
      have hBa := below_alloc (Below.refl _ wr) (.cells #[.int .i64 x.f0, .string x.f1, .int .i64 x.f2, .slice A7 x.f3.length c7] 55)
      have MC := moved_calls (wr.alloc (.cells #[.int .i64 x.f0, .string x.f1, .int .i64 x.f2, .slice A7 x.f3.length c7] 55)) A7 c7 x.f3 A3 c3 (pl ns.length r)
      rw [pl_length] at MC
      refine (MC (Kd.C_alloc (Kd.C_below HC7.out HO.out.bel) _) hl7 (Kd.C_alloc (HM.out wr HO.out.kept).2.1 _) (HM.out wr HO.out.kept).2.2 (by omega) hga.1).mono ?_
      clear MC hga
      generalize movedL x.f3 (pl ns.length r) = mv at HT ⊢
      rintro e w3 ⟨v8, rfl, hR8, hB8⟩
      obtain ⟨A8, c8, rfl⟩ := Kd.R_slice hR8
      have hbn : w3.heap[wr.heap.size]? = some (.cells #[.int .i64 x.f0, .string x.f1, .int .i64 x.f2, .slice A7 x.f3.length c7] 55 (0, 0)) := (hB8.block _ (by simp)).trans (blk_last wr _)
      have hbo3 : w3.heap[w2.heap.size]? = some (.cells #[.slice A0 k c0, .slice none 0 0] 52 (0, 0)) := (hB8.block _ (by simp; omega)).trans (blk_old _ HO.out.box)
      have b3 : w3.cell? ⟨wr.heap.size, 3, none⟩ = some (.slice A7 x.f3.length c7) := blk_cell hbn 3
      have f3 : w3.frozen? ⟨wr.heap.size, 3, none⟩ = false := blk_frozen hbn 3
      have hbW : ∀ u, (w3.setCell ⟨wr.heap.size, 3, none⟩ u).heap[wr.heap.size]? = some (.cells #[.int .i64 x.f0, .string x.f1, .int .i64 x.f2, u] 55 (0, 0)) := fun u => blk_put hbn 3 u rfl
      have z0 : ∀ u, (w3.setCell ⟨wr.heap.size, 3, none⟩ u).cell? ⟨wr.heap.size, 0, none⟩ = some (.int .i64 x.f0) := fun u => blk_cell (hbW u) 0
      have z1 : ∀ u, (w3.setCell ⟨wr.heap.size, 3, none⟩ u).cell? ⟨wr.heap.size, 1, none⟩ = some (.string x.f1) := fun u => blk_cell (hbW u) 1
      have z2 : ∀ u, (w3.setCell ⟨wr.heap.size, 3, none⟩ u).cell? ⟨wr.heap.size, 2, none⟩ = some (.int .i64 x.f2) := fun u => blk_cell (hbW u) 2
      have z3 : ∀ u, (w3.setCell ⟨wr.heap.size, 3, none⟩ u).cell? ⟨wr.heap.size, 3, none⟩ = some u := fun u => blk_cell (hbW u) 3
      have yW : ∀ u, (w3.setCell ⟨wr.heap.size, 3, none⟩ u).cell? ⟨w2.heap.size, 0, none⟩ = some (.slice A0 k c0) := fun u => by
        rw [World.cell?_setCell_far _ _ _ _ (by simp; omega)]
        exact blk_cell hbo3 0
      have hBW : Below wr.heap.size wr (w3.setCell ⟨wr.heap.size, 3, none⟩ (.slice A8 mv.length c8)) := (below_then hBa (by simp) hB8).setCell (p := ⟨wr.heap.size, 3, none⟩) (Nat.le_refl _) _
      have hRW : Kd.R (Kd.int .i64) 3 (w3.setCell ⟨wr.heap.size, 3, none⟩ (.slice A8 mv.length c8)) w.heap.size (fun k => wr.heap.size ≤ k) (.slice A8 mv.length c8) mv := by
        refine Kd.R_set (Kd.R_lower (Kd.R_mono hR8 (fun k hk => ?_)) ?_) hbn (by simp [Kd.int, Kd.scalar]) 3 _
        · simp only [World.size_alloc] at hk; omega
        · simp only [World.size_alloc]; omega
      have HX := Aside0.mk (And.intro hBW hRW)
      have hkl : k ≤ 10000 := by omega
      clear hBW hRW hBa hB8 hR8 hbn hbo3
      go_wp2_with (at_builtin; go_must (refine wp_push (w0 := w) hn2 (Nat.le_of_lt hw2) (by simp) HO.out HX.out.1 ⟨x.f0, x.f1, x.f2, mv⟩ (.slice A8 mv.length c8) HX.out.2 rfl (.tmp 39) (.tmp 41) rfl rfl ?hx ?hl ?_; (case hx => simp [Act.eval, Act.put]); (case hl => omega); intro A9 c9 w4 hb4 hO4; rw [hlk] at hO4 ⊢; rw [← HT.out] at hO4; have HO4 := Aside0.mk hO4; have q0 : w4.cell? ⟨w2.heap.size, 0, none⟩ = some (.slice A0 k c0) := blk_cell hb4 0; have qf : w4.frozen? ⟨w2.heap.size, 0, none⟩ = false := blk_frozen hb4 0; clear hO4 hb4 z0 z1 z2 z3 yW hbW b3 f3 x0 x1 y0 n0 n1 n2 n3 HO HX))
      go_roundw
      case rel => exact ⟨k + 1, _, by omega, by go_num, HO4⟩
      case measure => simp [intOf]; omega
    · obtain rfl : k = r.length := by omega
      clear hlt hk
      have hlr : rs.length ≤ 4096 := hp.2.1
      have hra : allIn ns.length rs := fun a ha => by have := hp.2.2.2 a ha; simpa [inside] using this
      have hmv := movedL_pl hra (From.sup hr)
      go_wp2_with fail
      have MC := moved_calls wr A' c' rs A3 c3 (pl ns.length r)
      rw [pl_length, hmv] at MC
      refine (MC (Kd.C_below HG.out.r HO.out.bel) HG.out.lr (HM.out wr HO.out.kept).2.1 (HM.out wr HO.out.kept).2.2 (by omega) hra).mono ?_
      clear MC hra hmv
      rintro e w3 ⟨v8, rfl, hR8, hB8⟩
      have HOR := Aside0.mk (HO.out.roots hn2 (Nat.le_of_lt hw2) hB8 (Kd.R_lower hR8 (Nat.le_trans hn2 HO.out.kept.1)))
      have HSR : Aside0 (w3.heap[w.heap.size + 1]? = some (.cells #[.slice none 0 0, .slice none 0 0] 52 (0, 0))) :=
        ⟨(hB8.block _ (by omega)).trans ((HO.out.kept.2 _ (blk_lt HS2.out) (by omega)).trans HS2.out)⟩
      obtain ⟨A8, c8, rfl⟩ := Kd.R_slice hR8
      have hbo3 : w3.heap[w2.heap.size]? = some (.cells #[.slice A0 r.length c0, .slice none 0 0] 52 (0, 0)) := (hB8.block _ (blk_lt HO.out.box)).trans HO.out.box
      generalize (rs.map (at0 r)).length = rl at *
      have p1 : w3.cell? ⟨w2.heap.size, 1, none⟩ = some (.slice none 0 0) := blk_cell hbo3 1
      have pf : w3.frozen? ⟨w2.heap.size, 1, none⟩ = false := blk_frozen hbo3 1
      have q0 : ∀ u, (w3.setCell ⟨w2.heap.size, 1, none⟩ u).cell? ⟨w2.heap.size, 0, none⟩ = some (.slice A0 r.length c0) := fun u => blk_cell (set_box hbo3 u).2 0
      have q1 : ∀ u, (w3.setCell ⟨w2.heap.size, 1, none⟩ u).cell? ⟨w2.heap.size, 1, none⟩ = some u := fun u => blk_cell (set_box hbo3 u).2 1
      have s0 : ∀ u, (w3.setCell ⟨w2.heap.size, 1, none⟩ u).cell? ⟨w.heap.size + 1, 0, none⟩ = some (.slice none 0 0) := fun u => blk_cell (blk_far HSR.out (p := ⟨w2.heap.size, 1, none⟩) (by simp; omega) u) 0
      have s1 : ∀ u, (w3.setCell ⟨w2.heap.size, 1, none⟩ u).cell? ⟨w.heap.size + 1, 1, none⟩ = some (.slice none 0 0) := fun u => blk_cell (blk_far HSR.out (p := ⟨w2.heap.size, 1, none⟩) (by simp; omega) u) 1
      have sf : ∀ j, w3.frozen? ⟨w.heap.size + 1, j, none⟩ = false := fun j => blk_frozen HSR.out j
      clear hR8 hB8 x0 x1 y0
      go_wp2_with fail
      have hf1 := blk_far HSR.out (p := ⟨w2.heap.size, 1, none⟩) (by simp; omega) (.slice A8 rl c8)
      have hf2 := (set_box hf1 (.slice A0 r.length c0)).1
      have hf3 := (set_box hf2 (.slice A8 rl c8)).2
      refine bodyPost_ret (results_ct rfl _ _ (w.heap.size + 1) 52 #[.slice A0 r.length c0, .slice A8 rl c8] (0, 0) _ rfl hf3 Try.underlying52 rfl (by kernel_rfl)) rfl ⟨_, _, rfl, ?_, ?_⟩
      · have h1 := ((HOR.out.own.set hf1 (by decide) (by decide) 0 (.slice A0 r.length c0)).set hf2 (by decide) (by decide) 1 (.slice A8 rl c8)).mono (W0 := w) hn2
        rw [List.take_of_length_le (by rw [trimL_length]; omega)] at h1
        exact h1
      · exact (HOR.out.bel.setCell (p := ⟨w.heap.size + 1, 0, none⟩) (by simp) _).setCell (p := ⟨w.heap.size + 1, 1, none⟩) (by simp) _

set_option maxRecDepth 100000 in
set_option maxHeartbeats 1000000 in
theorem trim_bad (w : World) (A : Option Addr) (c : Nat) (ns : List S55) (A' : Option Addr) (c' : Nat) (rs : List Int) (h : IsG w A c ns A' c' rs) (hck : chk ns rs ≠ []) :
    Calls Try.prog 39 #[gv A c ns A' c' rs] w fun e w' => ∃ ev, e = .returned (.tuple #[.agg #[.slice none 0 0, .slice none 0 0], ev]) ∧ IsErr w' (fun k => w.heap.size ≤ k) ev (chk ns rs) ∧ Below w.heap.size w w' := by
  have HG := Aside0.mk h
  have HP0 := Aside0.mk ((p1_made w (.slice A ns.length c) (.slice A' rs.length c')).below (below_alloc (Below.refl _ _) (.cells #[.slice none 0 0, .slice none 0 0] 52)))
  have HS0 := Aside0.mk (blk_last (w.alloc (.cells #[.slice A ns.length c, .slice A' rs.length c'] 52)) (.cells #[.slice none 0 0, .slice none 0 0] 52))
  rw [World.size_alloc] at HS0
  clear h
  simp only [gv]
  go_enter Try.func39, Try.ntmps39
  go_wp2_with fail
  refine (check_calls _ A c ns A' c' rs (HG.out.below HP0.out.b)).mono ?_
  rintro e w1 ⟨ev, rfl, he, hB1⟩
  obtain ⟨b, rfl⟩ := isErr_some he hck
  have HE := Aside0.mk he
  have HB1 := Aside0.mk (HP0.out.below hB1).b
  have HS1 := Aside0.mk ((hB1.block _ (blk_lt HS0.out)).trans HS0.out)
  have s0 : w1.cell? ⟨w.heap.size + 1, 0, none⟩ = some (.slice none 0 0) := blk_cell HS1.out 0
  have s1 : w1.cell? ⟨w.heap.size + 1, 1, none⟩ = some (.slice none 0 0) := blk_cell HS1.out 1
  have sf : ∀ j, w1.frozen? ⟨w.heap.size + 1, j, none⟩ = false := fun j => blk_frozen HS1.out j
  clear HP0 HS0 he hB1
  go_wp2_with fail
  have hf2 := (set_box HS1.out (.slice none 0 0)).1
  have hf3 := (set_box hf2 (.slice none 0 0)).2
  refine bodyPost_ret (results_ct rfl _ _ (w.heap.size + 1) 52 #[.slice none 0 0, .slice none 0 0] (0, 0) _ rfl hf3 Try.underlying52 rfl (by kernel_rfl)) rfl ⟨_, rfl, ?_, ?_⟩
  · have h1 : IsErr w1 (fun k => w.heap.size + 2 ≤ k) (.iface 93 (.pointer (some ⟨b, 0, none⟩))) (chk ns rs) := HE.out.mono (fun k hk => by simpa using hk)
    exact (h1.step (fun k hk _ => by
      rw [Below.heap_setCell _ _ _ _ (by simp; omega), Below.heap_setCell _ _ _ _ (by simp; omega)])).mono (fun k hk => by omega)
  · exact (HB1.out.setCell (p := ⟨w.heap.size + 1, 0, none⟩) (by simp) _).setCell (p := ⟨w.heap.size + 1, 1, none⟩) (by simp) _

end Go.Proofs.Ytgcjfobmccoibaa.Gr
