/- A table beside a list of texts and an error: Put of the table, the document's Put of the list, an append to the list; each leaves the others. No condition but those that each theorem states. -/
import Derived.Test.YtgcjfobmccoibaaNm8
set_option linter.unusedSimpArgs false
set_option linter.unusedVariables false
namespace Go.Proofs.Ytgcjfobmccoibaa.Nm
open Go.RowKit Go.Proofs.YtgcjfobmccoibaaW.PrintWords Go.Proofs.YtgcjfobmccoibaaW.PrintLast Go.Proofs.YtgcjfobmccoibaaW.PrintMore

theorem Tbl.bound {w : World} {base p : Nat} {ok : Nat → Prop} {L : List ByteArray} (h : Tbl w base ok p L) : Tbl w base (fun k => ok k ∧ k < w.heap.size) p L := by
  obtain ⟨v, bm, h1, h2, h3, h4, h5, h6, h7⟩ := h
  exact ⟨v, bm, h1, h2, Kd.R_mono (Kd.R_bound h3) (fun k hk => ⟨hk.1, hk.2.2.1⟩), h4, h5, ⟨h6, blk_lt h1⟩, ⟨h7, blk_lt h2⟩⟩
theorem R_lt {α : Type} {d : Kd α} {e base : Nat} {w : World} {ok : Nat → Prop} {v : Value} {xs : List α} (h : d.R e w base ok v xs) : d.R e w base (fun k => ok k ∧ k < w.heap.size) v xs :=
  Kd.R_mono (Kd.R_bound h) (fun k hk => ⟨hk.1, hk.2.2.1⟩)

/-- A table p with the names L, a list v of the texts M, an error ev that is the chain E: apart from one another. -/
def TVE (w0 : World) (p : Nat) (v : Value) (L M : List ByteArray) (ev : Value) (E : List (Int × Int × ByteArray)) (w : World) : Prop :=
  Below w0.heap.size w0 w ∧ ∃ okT okV okE : Nat → Prop, (∀ k, okT k → ¬ okV k) ∧ (∀ k, okE k → ¬ okV k) ∧ (∀ k, okV k → k < w.heap.size) ∧
    Tbl w w0.heap.size okT p L ∧ Kd.R Kd.string 9 w w0.heap.size okV v M ∧ IsErr w okE ev E

section
variable {w0 w w' : World} {p : Nat} {v ev : Value} {L M : List ByteArray} {E : List (Int × Int × ByteArray)}
theorem TVE.below (h : TVE w0 p v L M ev E w) (hb : Below w.heap.size w w') : TVE w0 p v L M ev E w' := by
  obtain ⟨hB, okT, okV, okE, h1, h2, h3, h4, h5, h6⟩ := h
  exact ⟨below_then hB hB.size hb, okT, okV, okE, h1, h2, fun k hk => Nat.lt_of_lt_of_le (h3 k hk) hb.size, h4.below hb, Kd.R_below h5 hb, h6.below hb⟩
theorem TVE.noErr (h : TVE w0 p v L M ev E w) : TVE w0 p v L M .nilIface [] w := by
  obtain ⟨hB, okT, okV, okE, h1, h2, h3, h4, h5, h6⟩ := h
  exact ⟨hB, okT, okV, fun _ => False, h1, fun _ h => h.elim, h3, h4, h5, rfl⟩
theorem TVE.size (h : TVE w0 p v L M ev E w) : w0.heap.size ≤ w.heap.size := h.1.size

theorem tve_put (h : TVE w0 p v L M ev E w) (hl : L.length ≤ 1024) (s : ByteArray) :
    Calls Try.prog 17 #[.pointer (some ⟨p, 0, none⟩), .string s] w fun e w' => ∃ ev', e = .returned (.tuple #[.int .i64 (putN L s : Int), ev']) ∧ TVE w0 p v (putL L s) M ev' (putE L s) w' := by
  obtain ⟨hB, okT, okV, okE, h1, h2, h3, h4, h5, h6⟩ := h
  refine (put_calls hB h4.bound hl s).mono ?_
  rintro e w' ⟨ev', rfl, he, ht, hb, hk⟩
  refine ⟨ev', rfl, hb, _, okV, _, ?_, ?_, fun k hk2 => Nat.lt_of_lt_of_le (h3 k hk2) hk.1, ht, Kd.R_kept h5 hk (fun k hk2 hk3 => h1 k hk3.1 hk2), he⟩
  · rintro k (hk1 | hk1) hk2
    · exact h1 k hk1.1 hk2
    · have := h3 k hk2; omega
  · intro k hk1 hk2
    have := h3 k hk2; omega

theorem tve_rput (h : TVE w0 p v L M ev E w) (hl : M.length ≤ 1024) (s : ByteArray) :
    Calls Try.prog 18 #[v, .string s] w fun e w' => ∃ v', e = .returned (.tuple #[v', .int .i64 (putN M s : Int), fVal (putE M s)]) ∧ TVE w0 p v' L (putL M s) ev E w' := by
  obtain ⟨hB, okT, okV, okE, h1, h2, h3, h4, h5, h6⟩ := h
  refine (rput_calls hB h5 hl s).mono ?_
  rintro e w' ⟨v', rfl, hr, hb, hk⟩
  refine ⟨v', rfl, hb, fun k => okT k ∧ k < w.heap.size, _, fun k => okE k ∧ k < w.heap.size, ?_, ?_, fun k hk2 => hk2.2, h4.bound.kept hk (fun k hk2 => h1 k hk2.1), R_lt hr, (IsErr.bound h6).kept hk (fun k hk2 => h2 k hk2.1)⟩
  · rintro k ⟨a, b⟩ ⟨c | c, d⟩
    · exact h1 k a c
    · omega
  · rintro k ⟨a, b⟩ ⟨c | c, d⟩
    · exact h2 k a c
    · omega

/-- An append to the list. -/
theorem TVE.appended {w1 W : World} {v1 : Value} {x : ByteArray} (h : TVE w0 p v L M ev E W) (hr : Kd.R Kd.string 9 w1 w0.heap.size (fun _ => True) v1 (M ++ [x])) (hb : Below w0.heap.size w0 w1) (hg : W.grownBy w1 v.ownBlock) (hat : v1.ownBlock = v.ownBlock ∨ ∃ b, v1.ownBlock = some b ∧ W.heap.size ≤ b) :
    TVE w0 p v1 L (M ++ [x]) ev E w1 := by
  obtain ⟨hB, okT, okV, okE, h1, h2, h3, h4, h5, h6⟩ := h
  have hv := h5.1
  have ht : ∀ k, okT k → some k ≠ v.ownBlock := fun k hk e => h1 k hk (hv k e.symm)
  have he : ∀ k, okE k → some k ≠ v.ownBlock := fun k hk e => h2 k hk (hv k e.symm)
  obtain ⟨hh, inner, ho, hrp⟩ := hr
  refine ⟨hb, fun k => okT k ∧ k < W.heap.size, fun k => v1.ownBlock = some k, fun k => okE k ∧ k < W.heap.size, ?_, ?_, fun k hk => own_lt ho k hk, h4.bound.step (fun k hk hlt => hg.block k hlt (ht k hk.1)), ⟨fun k hk => hk, inner, ho, hrp⟩, (IsErr.bound h6).step (fun k hk hlt => hg.block k hlt (he k hk.1))⟩
  · rintro k ⟨a, b⟩ hk
    rcases hat with e | ⟨b', e, hlt⟩
    · exact ht k a (by rw [← e, hk])
    · rw [hk] at e; cases e; omega
  · rintro k ⟨a, b⟩ hk
    rcases hat with e | ⟨b', e, hlt⟩
    · exact he k a (by rw [← e, hk])
    · rw [hk] at e; cases e; omega
end

/-- The append at its operation. -/
theorem wp_app {ops : Array Oper} {rest : List Oper} {o : Oper} {a : Act} {Q : Exit → Act → World → Prop} {w0 W : World} {p : Nat} {v ev : Value} {L M : List ByteArray} {E : List (Int × Int × ByteArray)} (h : TVE w0 p v L M ev E W) (x : ByteArray)
    (hgd : o.guard = none) (s y : Operand) (ho : o.op = .call { callee := .builtin .append, args := #[s, y], argTypes := #[25, 25] }) (hs : a.eval s = v) (hx : a.eval y = .slice (some ⟨W.heap.size, 0, none⟩) 1 1) (hl : M.length ≤ 100000)
    (hK : ∀ A c w1, TVE w0 p (.slice A (M.length + 1) c) L (M ++ [x]) ev E w1 → wpList Try.prog ops Q rest (a.put o.dst (.slice A (M.length + 1) c)) w1) :
    wpList Try.prog ops Q (o :: rest) a (W.alloc (.cells #[.string x] 9)) := by
  have h0 := h
  obtain ⟨hB, okT, okV, okE, h1, h2, h3, h4, h5, h6⟩ := h
  refine Kd.R_append Kd.string (w0 := w0) (W := W) w0.heap.size hgd s y 25 9 (.string ⟨#[]⟩) 16 ho Try.underlying25 info9 rfl (by decide) (by decide) v M x [.string x] (fun _ => True) (fun _ => False) hs hx rfl (fun _ h => h.elim) (fun _ _ => trivial) (Kd.R_mono h5 (fun _ _ => trivial)) hB hB.size (by omega) ?_
  intro v1 w1 hR hB1 hg hat
  have hT := h0.appended hR hB1 hg hat
  obtain ⟨A, c, rfl⟩ := Kd.R_slice hR
  rw [List.length_append, List.length_singleton] at hT ⊢
  exact hK A c w1 hT

/-- The fault of a Put as four cells. -/
theorem fval_form (L : List ByteArray) (s : ByteArray) : ∃ (c a : Int) (n : ByteArray), fVal (putE L s) = .agg #[.int .i64 c, .int .i64 a, .string n, .slice none 0 0] ∧ ∀ (w : World) (ok : Nat → Prop), FIs w ok c a n (.slice none 0 0) (putE L s) := by
  unfold putE
  split
  · split
    · exact ⟨31, -1, s, rfl, fun w ok => ⟨rfl, by decide, rfl, rfl, _, _, rfl⟩⟩
    · exact ⟨0, 0, ⟨#[]⟩, rfl, fun w ok => rfl⟩
  · exact ⟨30, -1, s, rfl, fun w ok => ⟨rfl, by decide, rfl, rfl, _, _, rfl⟩⟩

/-- Is, of a Put's error and the document's fault. -/
theorem tve_is {w0 w : World} {p : Nat} {v ev : Value} {L M : List ByteArray} {E : List (Int × Int × ByteArray)} (h : TVE w0 p v L M ev E w) (c a : Int) (n : ByteArray) (hf : ∀ (w : World) (ok : Nat → Prop), FIs w ok c a n (.slice none 0 0) E) :
    Calls Try.prog 19 #[ev, .agg #[.int .i64 c, .int .i64 a, .string n, .slice none 0 0]] w fun e w' => e = .returned (.bool true) ∧ TVE w0 p v L M ev E w' := by
  obtain ⟨hB, okT, okV, okE, h1, h2, h3, h4, h5, h6⟩ := h
  refine (is_calls w okE (fun _ => True) ev E E c a n (.slice none 0 0) ⟨_, _, _, rfl⟩ h6 (hf w _)).mono ?_
  rintro e w' ⟨rfl, hb⟩
  exact ⟨by simp, TVE.below ⟨hB, okT, okV, okE, h1, h2, h3, h4, h5, h6⟩ hb⟩

theorem tve_len {w0 w : World} {p : Nat} {v ev : Value} {L M : List ByteArray} {E : List (Int × Int × ByteArray)} (h : TVE w0 p v L M ev E w) :
    Calls Try.prog 20 #[.pointer (some ⟨p, 0, none⟩)] w fun e w' => e = .returned (.int .i64 (L.length : Int)) ∧ w = w' := by
  obtain ⟨hB, okT, okV, okE, h1, h2, h3, h4, h5, h6⟩ := h
  exact len_calls h4

/-- An empty list that is not nil. -/
theorem R_empty (w : World) (base : Nat) (hb : base ≤ w.heap.size) : Kd.R Kd.string 9 (w.alloc (.cells #[] 9)) base (fun k => k = w.heap.size) (.slice (some ⟨w.heap.size, 0, none⟩) 0 0) [] :=
  ⟨fun k hk => by simpa [Value.ownBlock, eq_comm] using hk, [], World.ownsRow_made w #[] 0 hb (by simp) (by simp), Reps.none _ _⟩

theorem tve_start {w0 w : World} {p : Nat} {ok : Nat → Prop} (hB : Below w0.heap.size w0 w) (hT : Tbl w w0.heap.size ok p []) :
    TVE w0 p (.slice (some ⟨w.heap.size, 0, none⟩) 0 0) [] [] .nilIface [] (w.alloc (.cells #[] 9)) := by
  have hb := (Below.refl w.heap.size w).alloc (Nat.le_refl _) (.cells #[] 9)
  refine ⟨hB.alloc hB.size _, fun k => ok k ∧ k < w.heap.size, fun k => k = w.heap.size, fun _ => False, ?_, fun _ h => h.elim, fun k hk => by simp [hk], hT.bound.below hb, R_empty w _ hB.size, rfl⟩
  rintro k ⟨_, h1⟩ h2
  omega

end Go.Proofs.Ytgcjfobmccoibaa.Nm
