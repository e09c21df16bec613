/- NamesApart: what the law holds between its steps. What is asked: how the lists of texts are read. -/
import Derived.LoopN
import Derived.Test.YtgcjfobmccoibaaNmF
set_option linter.unusedSimpArgs false
set_option linter.unusedVariables false
namespace Go.Proofs.Ytgcjfobmccoibaa.Nm
open Go.RowKit Go.Shelf Go.Proofs.YtgcjfobmccoibaaW.PrintWords Go.Proofs.YtgcjfobmccoibaaW.PrintLast Go.Proofs.YtgcjfobmccoibaaW.PrintMore

/-- A table of names, and what lay before. -/
def T1 (w0 : World) (p : Nat) (L : List ByteArray) (w : World) : Prop := Below w0.heap.size w0 w ∧ ∃ ok, Tbl w w0.heap.size ok p L
theorem t1_put {w0 w : World} {p : Nat} {L : List ByteArray} (h : T1 w0 p L w) (hl : L.length ≤ 1024) (s : ByteArray) :
    Calls Try.prog 17 #[.pointer (some ⟨p, 0, none⟩), .string s] w fun e w' => ∃ n ev, e = .returned (.tuple #[.int .i64 n, ev]) ∧ T1 w0 p (putL L s) w' := by
  obtain ⟨hB, ok, hT⟩ := h
  refine (put_calls hB hT hl s).mono ?_
  rintro e w' ⟨ev, rfl, _, ht, hb, _⟩
  exact ⟨_, ev, rfl, hb, _, ht⟩

/-- The table p with the names L; the list v, the iterator at n2, the copy q with the names M: apart from one another. -/
structure Ap (w0 : World) (n1 n2 n3 n4 p q : Nat) (v : Value) (L M : List ByteArray) (w : World) : Prop where
  bel : Below w0.heap.size w0 w
  tbl : Tbl w w0.heap.size (fun k => k < n1 ∨ n4 ≤ k) p L
  row : Kd.R Kd.string 9 w w0.heap.size (fun k => n1 ≤ k ∧ k < n2) v M
  seq : Seq w n2 n3 M
  cpy : Tbl w w0.heap.size (fun k => n3 ≤ k ∧ k < n4) q M
  h12 : n1 ≤ n2
  h23 : n2 < n3
  h34 : n3 ≤ n4
  h4 : n4 ≤ w.heap.size

section
variable {w0 w w' : World} {n1 n2 n3 n4 p q : Nat} {v : Value} {L M : List ByteArray}
theorem Ap.below (h : Ap w0 n1 n2 n3 n4 p q v L M w) (hb : Below w.heap.size w w') : Ap w0 n1 n2 n3 n4 p q v L M w' :=
  ⟨below_then h.bel h.bel.size hb, h.tbl.below hb, Kd.R_below h.row hb, h.seq.below hb, h.cpy.below hb, h.h12, h.h23, h.h34, Nat.le_trans h.h4 hb.size⟩
theorem ap_put (h : Ap w0 n1 n2 n3 n4 p q v L M w) (hl : L.length ≤ 1024) (s : ByteArray) :
    Calls Try.prog 17 #[.pointer (some ⟨p, 0, none⟩), .string s] w fun e w' => ∃ n ev, e = .returned (.tuple #[.int .i64 n, ev]) ∧ Ap w0 n1 n2 n3 n4 p q v (putL L s) M w' := by
  refine (put_calls h.bel h.tbl hl s).mono ?_
  rintro e w' ⟨ev, rfl, _, ht, hb, hk⟩
  have hs := hk.1
  have h12 := h.h12
  have h23 := h.h23
  have h34 := h.h34
  have h4 := h.h4
  obtain ⟨s0, sv, s1, s2, s3⟩ := h.seq
  refine ⟨_, ev, rfl, hb, ht.mono (fun k hk => ?_), Kd.R_kept h.row hk (fun k hk => by omega), ⟨by omega, sv, (hk.2 n2 (by omega) (by omega)).trans s1, Kd.R_kept s2 hk (fun k hk => by omega), s3⟩, h.cpy.kept hk (fun k hk => by omega), h12, h23, h34, by omega⟩
  rcases hk with hk | hk
  · exact hk
  · right; omega
/-- The iterator's blocks, and all else, behind a round that leaves what lay. -/
theorem Ap.all (h : Ap w0 n1 n2 n3 n4 p q v L M w) : Seq w n2 n3 M := h.seq

/-- .. and two blocks for the rounds' deferred calls. -/
structure Ap2 (w0 : World) (n1 n2 n3 n4 p q : Nat) (v : Value) (L M : List ByteArray) (D1 D2 : Nat) (w : World) : Prop where
  ap : Ap w0 n1 n2 n3 n4 p q v L M w
  b1 : w.heap[D1]? = some (.deferred (some []))
  b2 : w.heap[D2]? = some (.deferred (some []))
  l1 : n4 ≤ D1
  l2 : D1 < D2
variable {D1 D2 : Nat}
theorem Ap2.below (h : Ap2 w0 n1 n2 n3 n4 p q v L M D1 D2 w) (hb : Below w.heap.size w w') : Ap2 w0 n1 n2 n3 n4 p q v L M D1 D2 w' :=
  ⟨h.ap.below hb, (hb.block _ (blk_lt h.b1)).trans h.b1, (hb.block _ (blk_lt h.b2)).trans h.b2, h.l1, h.l2⟩

/-- What is left when a new name has been put into the copy: the first table, the blocks. -/
def Ap3 (w0 : World) (p D1 D2 : Nat) (L : List ByteArray) (w : World) : Prop :=
  Below w0.heap.size w0 w ∧ (∃ ok, Tbl w w0.heap.size ok p L) ∧ w.heap[D1]? = some (.deferred (some [])) ∧ w.heap[D2]? = some (.deferred (some [])) ∧ w0.heap.size ≤ D1 ∧ D1 < D2
theorem ap2_put (h : Ap2 w0 n1 n2 n3 n4 p q v L M D1 D2 w) (hn : w0.heap.size ≤ n1) (hl : M.length ≤ 1024) (s : ByteArray) :
    Calls Try.prog 17 #[.pointer (some ⟨q, 0, none⟩), .string s] w fun e w' => ∃ ev, e = .returned (.tuple #[.int .i64 (putN M s : Int), ev]) ∧ IsErr w' (fun k => w.heap.size ≤ k) ev (putE M s) ∧ Ap3 w0 p D1 D2 L w' := by
  refine (put_calls h.ap.bel h.ap.cpy hl s).mono ?_
  rintro e w' ⟨ev, rfl, he, ht, hb, hk⟩
  have h12 := h.ap.h12
  have h23 := h.ap.h23
  have h34 := h.ap.h34
  have l1 := h.l1
  have l2 := h.l2
  exact ⟨ev, rfl, he, hb, ⟨_, h.ap.tbl.kept hk (fun k hk => by omega)⟩, (hk.2 D1 (blk_lt h.b1) (by omega)).trans h.b1, (hk.2 D2 (blk_lt h.b2) (by omega)).trans h.b2, by omega, l2⟩
theorem Ap3.below (h : Ap3 w0 p D1 D2 L w) (hb : Below w.heap.size w w') : Ap3 w0 p D1 D2 L w' := by
  obtain ⟨h1, ⟨ok, h2⟩, h3, h4, h5⟩ := h
  exact ⟨below_then h1 h1.size hb, ⟨ok, h2.below hb⟩, (hb.block _ (blk_lt h3)).trans h3, (hb.block _ (blk_lt h4)).trans h4, h5⟩
end

theorem ap_start {w0 w w4 w5 w6 : World} {p q : Nat} {v : Value} {M : List ByteArray} {ok : Nat → Prop} (hB : Below w0.heap.size w0 w) (hT : Tbl w w0.heap.size (fun k => ok k ∧ k < w.heap.size) p M)
    (hR : Kd.R Kd.string 9 w4 w.heap.size (fun k => w.heap.size ≤ k) v M) (hB4 : Below w.heap.size w w4) (hS : Seq w5 w4.heap.size w5.heap.size M) (hB5 : Below w4.heap.size w4 w5)
    (hT6 : Tbl w6 w5.heap.size (fun k => w5.heap.size ≤ k) q M) (hB6 : Below w5.heap.size w5 w6) : Ap w0 w.heap.size w4.heap.size w5.heap.size w6.heap.size p q v M M w6 := by
  have s1 := hB.size
  have s2 := hB4.size
  have s3 := hB5.size
  have s4 := hB6.size
  have hs := hS
  obtain ⟨_, _, _, _, hlt⟩ := hs
  refine ⟨below_then (below_then (below_then hB s1 hB4) (by omega) hB5) (by omega) hB6, (((hT.below hB4).below hB5).below hB6).mono (fun k hk => .inl hk.2), ?_, hS.below hB6, (hT6.bound.lower (by omega)), s2, hlt, s4, Nat.le_refl _⟩
  exact Kd.R_below (Kd.R_below (Kd.R_lower (Kd.R_mono (Kd.R_bound hR) (fun k hk => ⟨hk.1, hk.2.2.1⟩)) s1) hB5) hB6

/-- What a round over the iterator holds between two of its rounds: the list got so far, its box; W0: the world where the round began. -/
def GotAt (W0 : World) (pre : List (Nat × ByteArray)) (W : World) : Prop :=
  (∃ v, Boxed W (W0.heap.size + 1) 25 v ∧ W.ownsRow W0.heap.size 9 1 v pre.length (pre.map fun x => Value.string x.2)) ∧ Below W0.heap.size W0 W
theorem gotAt_own (W0 : World) {B : Nat} (hB : W0.heap.size ≤ B) : OwnFrom B (GotAt W0) := by
  intro s X Y row hs hg hr
  obtain ⟨h1, h6⟩ := hs
  have hr' : ∀ r, row = some r → ∃ o : Obj, X.heap[r]? = some o ∧ o.isCells = false := fun r e => (hr r e).2
  refine ⟨?_, ?_⟩
  · obtain ⟨v, a, b⟩ := h1
    obtain ⟨v', a', b', _⟩ := holdsRow_own W0.heap.size (W0.heap.size + 1) 25 9 1 (fun pre : List (Nat × ByteArray) => pre.length) (fun pre => pre.map fun x => Value.string x.2) (fun _ _ => True) s X Y row ⟨v, a, b, trivial⟩ hg hr'
    exact ⟨v', a', b'⟩
  · exact h6.grown hg h6.size (fun k e => Nat.le_trans hB (hr k e).1)
theorem KpS.of_below {S : Nat → Prop} {n : Nat} {A B : World} (h : Below n A B) (hS : ∀ k, S k → k < n) : KpS S A B := fun k hk => h.block k (hS k hk)
theorem got_start (W0 : World) : GotAt W0 [] ((W0.alloc (.cells #[] 9)).alloc (.cells #[.slice (some ⟨W0.heap.size, 0, none⟩) 0 0] 25)) := by
  have h1 := World.ownsRow_made W0 #[] 0 (base := W0.heap.size) (e := 9) (size := 1) (by simp) (by simp) (by simp)
  have h2 := Boxed.new (W0.alloc (.cells #[] 9)) 25 (.slice (some ⟨W0.heap.size, 0, none⟩) 0 0)
  rw [World.size_alloc] at h2
  exact ⟨⟨_, h2, h1.alloc _⟩, ((Below.refl _ W0).alloc (Nat.le_refl _) _).alloc (by simp) _⟩
/-- The list got, when all have come. -/
theorem got_end {W0 W : World} {M : List ByteArray} (h : GotAt W0 (upto M M.length) W) : ∃ A c, W.cell? ⟨W0.heap.size + 1, 0, none⟩ = some (.slice A M.length c) ∧ M.length ≤ c ∧ Kd.C Kd.string W A M.length M := by
  obtain ⟨⟨v, h1, h2⟩, _⟩ := h
  have h3 : W.ownsRow W0.heap.size 9 1 v M.length (encs Value.string M) := by
    have e1 := upto_snd M (Nat.le_refl _)
    rw [List.take_length] at e1
    have e2 : (upto M M.length).map (fun x => Value.string x.2) = encs Value.string M := by
      have : (upto M M.length).map (fun x => Value.string x.2) = ((upto M M.length).map (·.2)).map Value.string := by simp [Function.comp_def]
      rw [this, e1]; simp [encs]
    rw [upto_length, e2] at h2
    exact h2
  obtain ⟨A, c, rfl, hl, hC⟩ := Kd.R_reads (Kd.R_of_own (h1 := fun _ => rfl) (ok := fun _ => True) h3 (fun _ _ => trivial))
  exact ⟨A, c, h1.cell, hl, hC⟩

theorem puts_len (list : List ByteArray) (k : Nat) : (puts list k).length ≤ k := by
  induction k with
  | zero => simp [puts]
  | succ k ih =>
    by_cases hk : k < list.length
    · rw [puts_succ list hk]
      exact Nat.le_trans (putL_len _ _) (by omega)
    · have : puts list (k + 1) = puts list k := by
        unfold puts
        rw [List.take_of_length_le (by omega), List.take_of_length_le (by omega)]
      rw [this]; omega
/-- k more puts. -/
def putsOn (L more : List ByteArray) (k : Nat) : List ByteArray := (more.take k).foldl putL L
theorem putsOn_succ (L more : List ByteArray) {k : Nat} (hk : k < more.length) : putsOn L more (k + 1) = putL (putsOn L more k) (more.getD k ByteArray.empty) := by
  unfold putsOn
  rw [List.take_succ_eq_append_getElem hk, List.foldl_append]
  simp [hk]
theorem putsOn_le {L : List ByteArray} (hL : L.length ≤ 1024) (more : List ByteArray) (k : Nat) : (putsOn L more k).length ≤ 1024 := foldl_putL_le _ _ hL
theorem foldl_putL_ext : ∀ (l : List ByteArray) (L : List ByteArray), ∃ r, l.foldl putL L = L ++ r
  | [], L => ⟨[], by simp⟩
  | s :: l, L => by
    obtain ⟨r, hr⟩ := foldl_putL_ext l (putL L s)
    rw [List.foldl_cons, hr]
    rcases putL_cases L s with e | ⟨e, _⟩ <;> rw [e]
    · exact ⟨r, rfl⟩
    · exact ⟨[s] ++ r, by simp⟩
theorem putsOn_ext (L more : List ByteArray) (k : Nat) : ∃ r, putsOn L more k = L ++ r := foldl_putL_ext _ _

/-- The law's return, with the two blocks for deferred calls. -/
theorem apart_ret {w wr : World} {p Da Db : Nat} {L : List ByteArray} {tmps : Array Value} (h : Ap3 w p Da Db L wr) (h6 : tmps.getD 6 undef = .bool true) :
    bodyPostM Fence.wide 3 Try.prog Try.f7 (fun e w' => e = .returned (.bool true) ∧ Below w.heap.size w w') Exit.ret { tmps := tmps, defers := [{ target := .collected Db, args := #[] }, { target := .collected Da, args := #[] }] } wr := by
  obtain ⟨hB, _, hA, hDb, h1, h2⟩ := h
  refine ⟨by simp, .inl ⟨_, _, rfl, run_takeDeferred hDb, ?_⟩⟩
  have hA' : (wr.putObj Db (.deferred none)).heap[Da]? = some (.deferred (some [])) := (World.putObj_heap_other (by omega)).trans hA
  refine ⟨by simp, .inl ⟨_, _, rfl, run_takeDeferred hA', ?_⟩⟩
  have hs := hB.size
  have hB1 : Below w.heap.size w (wr.putObj Db (.deferred none)) := hB.grown (grownBy_putObj' _ Db _) hs (fun k e => by cases e; omega)
  have hB2 : Below w.heap.size w ((wr.putObj Db (.deferred none)).putObj Da (.deferred none)) := hB1.grown (grownBy_putObj' _ Da _) hB1.size (fun k e => by cases e; omega)
  refine ⟨.bool true, ?_, rfl, hB2⟩
  have h6' : tmps[6]?.getD undef = .bool true := by rw [← h6]; simp [Array.getD_eq_getD_getElem?]
  simp only [results, Try.f7]
  simp [go_sem, h6']

/-- The name that is put into the copy. -/
def anew : ByteArray := ⟨#[97, 45, 110, 101, 119, 45, 111, 110, 101]⟩
theorem anew_good : goodB anew = true := by decide +kernel
theorem apart_new {w : World} {ok : Nat → Prop} {M r : List ByteArray} {b0 : Bool} {ev : Value} (hb : (idx anew (M ++ r)).isSome = b0) (hl : M.length ≤ 400) (hE : IsErr w ok ev (putE M anew)) : b0 = false → ev = .nilIface ∧ putN M anew = M.length := by
  intro h0
  have hn : idx anew M = none := by
    cases hi : idx anew M with
    | none => rfl
    | some i =>
      rw [idx_append (i := 0) r hi] at hb
      subst hb
      cases h0
  have hne : M.length ≠ 1024 := by omega
  have h1 : putE M anew = [] := by simp [putE, anew_good, hn, hne]
  rw [h1] at hE
  exact ⟨hE, by simp [putN, anew_good, hn, hne]⟩

end Go.Proofs.Ytgcjfobmccoibaa.Nm
