/- Clone of a list of texts; All of a table of names; told. What is asked: how the table or the list is read. -/
import Derived.Maps.OwnIn
import Derived.Deep.QuietTactic
import Derived.BigQuiet
import Derived.Test.YtgcjfobmccoibaaNmB
set_option linter.unusedSimpArgs false
set_option linter.unusedVariables false
namespace Go.Proofs.Ytgcjfobmccoibaa.Nm
open Go.RowKit Go.Shelf Go.Proofs.YtgcjfobmccoibaaW.PrintWords Go.Proofs.YtgcjfobmccoibaaW.PrintLast Go.Proofs.YtgcjfobmccoibaaW.PrintMore

theorem R_nil_at (w : World) (base : Nat) (ok : Nat → Prop) : Kd.R Kd.string 9 w base ok (.slice none 0 0) [] :=
  ⟨fun k hk => by simp [Value.ownBlock] at hk, [], World.ownsRow_nil _ _ _ _, Reps.none _ _⟩

set_option maxRecDepth 100000 in
set_option maxHeartbeats 1000000 in
/-- slices.Clone of a list of texts. -/
theorem clone_calls (w : World) (A : Option Addr) (c : Nat) (L : List ByteArray) (hc : Kd.C Kd.string w A L.length L) (hl : L.length ≤ 100000) :
    Calls Try.prog 64 #[.slice A L.length c] w fun e w' => ∃ v, e = .returned v ∧ Kd.R Kd.string 9 w' w.heap.size (fun k => w.heap.size ≤ k) v L ∧ Below w.heap.size w w' := by
  have q25 : ∀ (w : World) (a : Option Addr) (n c n' c' : Nat), (binOp .eql 25 (.slice a n c) (.slice none n' c')).run Try.prog w = .ok (.bool a.isNone) w := fun w a n c n' c' => Lib.run_eql_slice_nil w _ _ a n c n' c' Try.underlying25
  have HC := Aside0.mk hc
  clear hc
  rcases A with _ | ad
  · have h0 : L = [] := by
      have := Kd.reads_of_C (d := ByteArray.empty) HC.out
      rcases Nat.eq_zero_or_pos L.length with h0 | h0
      · exact List.eq_nil_of_length_eq_zero h0
      · obtain ⟨ad, h, _⟩ := this.2.2 h0
        cases h
    subst h0
    go_enter Try.func64, Try.ntmps64
    go_wp2
    go_ret
    exact ⟨_, rfl, R_nil_at _ _ _, Below.refl _ _⟩
  · go_enter Try.func64, Try.ntmps64
    go_wp2_with (at_builtin; go_must (refine Kd.R_append_row (w0 := w) Value.string ByteArray.empty w.heap.size rfl (.tmp 5) (.tmp 6) 25 9 (.string ⟨#[]⟩) 16 rfl Try.underlying25 info9 rfl (by decide) (.slice (some ⟨w.heap.size, 0, none⟩) 0 0) [] L (some ad) L.length c (fun k => w.heap.size ≤ k) rfl rfl (fun k hk => Nat.le_trans (by simp) hk) (Kd.R_mono (R_empty w w.heap.size (Nat.le_refl _)) (fun k hk => by simp [hk])) (Kd.C_alloc HC.out _) ((Below.refl _ w).alloc (Nat.le_refl _) _) (by simp) (by simp; omega) ?_; intro v1 w1 hR hB1 hg hat))
    go_ret
    exact ⟨_, rfl, hR, hB1⟩

/-- A table that may be nil. -/
def TblO (w : World) (base : Nat) (ok : Nat → Prop) (t : Option Nat) (L : List ByteArray) : Prop := match t with
  | none => L = []
  | some p => Tbl w base ok p L
def ptr (t : Option Nat) : Value := .pointer (t.map fun p => ⟨p, 0, none⟩)

/-- A box at a whose list of texts lies in blocks from a to b. -/
def Seq (w : World) (a b : Nat) (L : List ByteArray) : Prop := b ≤ w.heap.size ∧ ∃ v, w.heap[a]? = some (.cells #[v] 25 (0, 0)) ∧ Kd.R Kd.string 9 w a (fun k => a < k ∧ k < b) v L ∧ a < b

theorem Seq.below {w w1 : World} {a b : Nat} {L : List ByteArray} (h : Seq w a b L) (hb : Below w.heap.size w w1) : Seq w1 a b L := by
  obtain ⟨h0, v, h1, h2, h3⟩ := h
  exact ⟨Nat.le_trans h0 hb.size, v, (hb.block a (blk_lt h1)).trans h1, Kd.R_step h2 (fun k _ hk => hb.block k hk), h3⟩

set_option maxRecDepth 100000 in
set_option maxHeartbeats 1000000 in
theorem all_calls (w : World) (base : Nat) (ok : Nat → Prop) (t : Option Nat) (L : List ByteArray) (h : TblO w base ok t L) (hl : L.length ≤ 100000) :
    Calls Try.prog 31 #[ptr t] w fun e w' => e = .returned (.func (.func 65) #[] #[.pointer (some ⟨w.heap.size, 0, none⟩)]) ∧ Seq w' w.heap.size w'.heap.size L ∧ Below w.heap.size w w' := by
  rcases t with _ | p
  · obtain rfl : L = [] := h
    simp only [ptr, Option.map_none]
    go_enter Try.func31, Try.ntmps31
    go_wp2_with fail
    go_ret
    exact ⟨rfl, ⟨Nat.le_refl _, _, blk_last w _, R_nil_at _ _ _, by simp⟩, (Below.refl _ _).alloc (Nat.le_refl _) _⟩
  · have hT : Tbl w base ok p L := h
    obtain ⟨A, c, bm, c0, c1, hb, hlc, hc, f0⟩ := (hT.below (below_alloc (Below.refl _ w) (.cells #[.slice none 0 0] 25))).cells
    have HC := Aside0.mk hc
    clear hc h hT
    simp only [ptr, Option.map_some]
    go_enter Try.func31, Try.ntmps31
    go_wp2_with fail
    refine (clone_calls _ A c L HC.out hl).mono ?_
    rintro e w1 ⟨v, rfl, hR, hB⟩
    obtain ⟨A1, c1', rfl⟩ := Kd.R_slice hR
    have hx := (hB.block w.heap.size (by simp)).trans (blk_last w _)
    have hx1 := blk_cell hx 0
    have hx2 : w1.frozen? ⟨w.heap.size, 0, none⟩ = false := by simp [World.frozen?, hx]
    go_wp2_with fail
    go_ret
    refine ⟨rfl, ⟨Nat.le_refl _, _, blk_put hx 0 _ rfl, ?_, ?_⟩, ?_⟩
    · have h1 := Kd.R_set (Kd.R_lower (Kd.R_bound hR) (by simp : w.heap.size ≤ _)) hx (by decide) 0 (.slice A1 L.length c1')
      refine Kd.R_mono h1 (fun k hk => ⟨?_, ?_⟩)
      · have := hk.1; simp at this; omega
      · have := hk.2.2.1; simpa using this
    · have := hB.size; simp at this; simp; omega
    · exact (below_then ((Below.refl w.heap.size w).alloc (Nat.le_refl _) _) (by simp) hB).setCell (p := ⟨w.heap.size, 0, none⟩) (Nat.le_refl _) _

/-- The iterator of a table of names, for every body that leaves the list's blocks as they are. -/
theorem all_stops (F : Fence) (n : Nat) (h65 : F.fn 65) (hro : F.round = none) (hn : 1 ≤ n) (w : World) (a b : Nat) (L : List ByteArray) (hl : L.length ≤ 1000000) (h : Seq w a b L) :
    SeqStopsK F n Try.prog 65 #[.pointer (some ⟨a, 0, none⟩)] (fun x : Nat × ByteArray => #[Value.int .i64 (x.1 : Int), Value.string x.2]) (KpS (fun k => a ≤ k ∧ k < b)) (fun ys => ys = upto L L.length)
      (fun pre => ∃ k, k ≤ L.length ∧ pre = upto L k) L.length w := fun l J Jx W hW _ _ hY h0 => by
  obtain ⟨hbw, v, h1, h2, h3⟩ := h.below hW
  obtain ⟨A, c, rfl⟩ := Kd.R_slice h2
  refine all1_in F n h65 hro hn l a c A L hl (fun k => a ≤ k ∧ k < b) J Jx hY W (by simp [World.cell?, h1]) (fun W' hW' => ?_) h0
  obtain ⟨A', c', he, _, hC⟩ := Kd.R_reads (Kd.R_step h2 (fun k hk _ => hW' k ⟨Nat.le_of_lt hk.1, hk.2⟩))
  cases he
  exact hC

/-- What told tells: the first stop names, or all. -/
def cut (stop : Int) (L : List ByteArray) : List ByteArray := if 1 ≤ stop then L.take stop.toNat else L

attribute [local go_sem] Oper.semAt_some

/-- What told holds between two rounds: the list so far, its boxes; n0: where its blocks begin; b: where the iterator's end. -/
def ToldAt (w : World) (n0 b : Nat) (stop : Int) (pre : List (Nat × ByteArray)) (W : World) : Prop :=
  (∃ v, Boxed W (n0 + 1 + 1 + 1 + 1) 25 v ∧ W.ownsRow n0 9 1 v pre.length (pre.map fun x => Value.string x.2) ∧ ∀ k, v.ownBlock = some k → ¬ (n0 + 5 ≤ k ∧ k < b)) ∧
  (Boxed W n0 3 (.int .i64 stop) ∧ Boxed W (n0 + 1) 25 (.slice none 0 0) ∧ Boxed W (n0 + 1 + 1) 4 (.bool false)) ∧ b ≤ W.heap.size ∧ Below n0 w W

theorem toldAt_own (w : World) (n0 b : Nat) (stop : Int) (hn : n0 = w.heap.size) {B : Nat} (hB : n0 ≤ B) : OwnFrom B (ToldAt w n0 b stop) := by
  intro s X Y row hs hg hr
  obtain ⟨h1, ⟨h2, h3, h4⟩, h5, h6⟩ := hs
  have hr' : ∀ r, row = some r → ∃ o : Obj, X.heap[r]? = some o ∧ o.isCells = false := fun r e => (hr r e).2
  refine ⟨?_, ⟨?_, ?_, ?_⟩, Nat.le_trans h5 hg.size, ?_⟩
  · exact holdsRow_own n0 (n0 + 1 + 1 + 1 + 1) 25 9 1 (fun pre : List (Nat × ByteArray) => pre.length) (fun pre => pre.map fun x => Value.string x.2) (fun _ v => ∀ k, v.ownBlock = some k → ¬ (n0 + 5 ≤ k ∧ k < b)) s X Y row h1 hg hr'
  · exact boxed_own n0 3 (fun _ : Unit => .int .i64 stop) () X Y row h2 hg hr'
  · exact boxed_own (n0 + 1) 25 (fun _ : Unit => .slice none 0 0) () X Y row h3 hg hr'
  · exact boxed_own (n0 + 1 + 1) 4 (fun _ : Unit => .bool false) () X Y row h4 hg hr'
  · exact h6.grown hg (by have := h6.size; omega) (fun k e => Nat.le_trans hB (hr k e).1)

/-- How told's loop is left. -/
def ToldX (w : World) (n0 b : Nat) (stop : Int) (c : Code) (pre : List (Nat × ByteArray)) (W : World) : Prop :=
  (c = .ret ∧ ∃ ini last, pre = ini ++ [last] ∧ (last.1 : Nat) ≠ ini.length) ∨ (c = .exit 0 ∧ ToldAt w n0 b stop pre W ∧ (pre.length : Int) = stop ∧ 1 ≤ pre.length)
theorem toldX_own (w : World) (n0 b : Nat) (stop : Int) (hn : n0 = w.heap.size) {B : Nat} (hB : n0 ≤ B) (c : Code) : OwnFrom B (ToldX w n0 b stop c) := by
  intro s X Y row hs hg hr
  rcases hs with h | ⟨h1, h2, h3⟩
  · exact .inl h
  · exact .inr ⟨h1, toldAt_own w n0 b stop hn hB s X Y row h2 hg hr, h3⟩

/-- A round of told: the list has grown by one. -/
theorem told_step {w W w1 : World} {n0 b : Nat} {stop : Int} {pre : List (Nat × ByteArray)} {x : Nat × ByteArray} {v v' : Value} {tmp : Obj} (hn : n0 = w.heap.size)
    (hv : Boxed W (n0 + 1 + 1 + 1 + 1) 25 v) (hrow : W.ownsRow n0 9 1 v pre.length (pre.map fun x => Value.string x.2)) (hne : ∀ k, v.ownBlock = some k → ¬ (n0 + 5 ≤ k ∧ k < b))
    (B1 : Boxed W n0 3 (.int .i64 stop)) (B2 : Boxed W (n0 + 1) 25 (.slice none 0 0)) (B3 : Boxed W (n0 + 1 + 1) 4 (.bool false)) (hbW : b ≤ W.heap.size) (hB : Below n0 w W)
    (hown' : w1.ownsRow n0 9 1 v' (pre.length + 1) ((pre.map fun x => Value.string x.2) ++ [.string x.2])) (hgrow : (W.alloc tmp).grownBy w1 v.ownBlock) (hat : v'.ownBlock = v.ownBlock ∨ v'.ownBlock = some (W.alloc tmp).heap.size) :
    ToldAt w n0 b stop (pre ++ [x]) (w1.setCell ⟨n0 + 1 + 1 + 1 + 1, 0, none⟩ v') ∧ KpS (fun k => n0 + 5 ≤ k ∧ k < b) W (w1.setCell ⟨n0 + 1 + 1 + 1 + 1, 0, none⟩ v') ∧ KeepsOthers W (w1.setCell ⟨n0 + 1 + 1 + 1 + 1, 0, none⟩ v') := by
  have hsz := hB.size
  obtain ⟨hv1, hv2, hr2, hk2, hb2⟩ := hv.appended (by decide) hrow (by omega) (by omega) hown' hgrow
  have hx : ∀ {k : Nat} {q : TypeId} {u : Value}, q ≠ 9 → k < n0 + 1 + 1 + 1 + 1 → Boxed W k q u → Boxed (w1.setCell ⟨n0 + 1 + 1 + 1 + 1, 0, none⟩ v') k q u := fun {k q u} hq hk hb => by
    have h1 : Boxed w1 k q u := (hb.alloc tmp).kept hgrow (hb.not_row hq hrow)
    exact (Below.heap_setCell w1 ⟨n0 + 1 + 1 + 1 + 1, 0, none⟩ v' k (by simp; omega)).trans h1
  refine ⟨⟨⟨v', hv2, ?_, ?_⟩, ⟨hx (by decide) (by omega) B1, hx (by decide) (by omega) B2, hx (by decide) (by omega) B3⟩, ?_, hB.trans hb2⟩, ?_, hk2⟩
  · simpa using hr2
  · intro k hk
    rcases hat with e | e
    · exact hne k (by rw [← e]; exact hk)
    · rw [e] at hk
      have : W.heap.size + 1 = k := by simpa using hk
      omega
  · exact Nat.le_trans hbW hk2.size
  · intro k hk
    have hk0 : k < W.heap.size := by have := hk.2; omega
    rw [Below.heap_setCell w1 ⟨n0 + 1 + 1 + 1 + 1, 0, none⟩ v' k (by simp; omega)]
    rw [hgrow.block k (by simp; omega) (fun e => hne k e.symm hk), Below.heap_alloc W tmp k hk0]

/-- told's end: its two results lie in their boxes. -/
theorem told_end {w W : World} {n0 : Nat} {pre : List (Nat × ByteArray)} {v : Value} {D : Nat} (hn : n0 = w.heap.size) (hv : Boxed W (n0 + 1 + 1 + 1 + 1) 25 v) (hrow : W.ownsRow n0 9 1 v pre.length (pre.map fun x => Value.string x.2))
    (B2 : Boxed W (n0 + 1) 25 (.slice none 0 0)) (B3 : Boxed W (n0 + 1 + 1) 4 (.bool false)) (hB : Below n0 w W) (hD : n0 ≤ D) (hK : W.heap[D]? = some (.deferred (some []))) :
    ∃ W2, W2 = (W.setCell ⟨n0 + 1, 0, none⟩ v).setCell ⟨n0 + 1 + 1, 0, none⟩ (.bool true) ∧ W2.heap[D]? = some (.deferred (some [])) ∧
      (W2.putObj D (.deferred none)).cell? ⟨n0 + 1, 0, none⟩ = some v ∧ (W2.putObj D (.deferred none)).cell? ⟨n0 + 1 + 1, 0, none⟩ = some (.bool true) ∧
      Kd.R Kd.string 9 (W2.putObj D (.deferred none)) n0 (fun k => n0 ≤ k) v (pre.map (·.2)) ∧ Below n0 w (W2.putObj D (.deferred none)) := by
  refine ⟨_, rfl, ?_⟩
  have h1 := B2.set v
  have h2 : Boxed (W.setCell ⟨n0 + 1, 0, none⟩ v) (n0 + 1 + 1) 4 (.bool false) := B3.other (by omega) v
  have h3 := h2.set (.bool true)
  have h4 : Boxed ((W.setCell ⟨n0 + 1, 0, none⟩ v).setCell ⟨n0 + 1 + 1, 0, none⟩ (.bool true)) (n0 + 1) 25 v := h1.other (by omega) _
  have hK' := ((KeepsOthers.setCell W ⟨n0 + 1, 0, none⟩ v).trans (KeepsOthers.setCell _ ⟨n0 + 1 + 1, 0, none⟩ (.bool true))).same D _ hK rfl
  have hR : Kd.R Kd.string 9 W n0 (fun k => n0 ≤ k) v (pre.map (·.2)) := by
    have hr : W.ownsRow n0 9 1 v (pre.map (·.2)).length (encs Value.string (pre.map (·.2))) := by simpa [encs, Function.comp_def] using hrow
    refine Kd.R_of_own hr (fun k hk => ?_)
    rcases hrow.2 with ⟨rfl, _⟩ | ⟨g, cap, cur, rfl, h, _⟩
    · simp [Value.ownBlock] at hk
    · simp [Value.ownBlock] at hk; omega
  have hR1 := Kd.R_set hR B2 (by decide) 0 v
  have hR2 := Kd.R_set hR1 h2 (by decide) 0 (.bool true)
  have hrow2 := Kd.own_of_R hR2
  have hs := hB.size
  refine ⟨hK', ?_, ?_, ?_, ?_⟩
  · exact cell_kept h4.cell (grownBy_putObj' _ D (.deferred none)) (fun r e => by cases e; exact ⟨_, hK', rfl⟩)
  · exact cell_kept h3.cell (grownBy_putObj' _ D (.deferred none)) (fun r e => by cases e; exact ⟨_, hK', rfl⟩)
  · exact Kd.R_of_own (ownsRow_putObj hrow2 _ hK' rfl) hR.1
  · refine ((hB.setCell (p := ⟨n0 + 1, 0, none⟩) (by simp) v).setCell (p := ⟨n0 + 1 + 1, 0, none⟩) (by simp; omega) (.bool true)).grown (grownBy_putObj' _ D (.deferred none)) (by simp; omega) (fun k e => by cases e; omega)

set_option maxRecDepth 100000 in
set_option maxHeartbeats 2000000 in
theorem told_calls (w : World) (base : Nat) (ok : Nat → Prop) (t : Option Nat) (L : List ByteArray) (h : TblO w base ok t L) (hl : L.length ≤ 100000) (stop : Int) :
    Calls Try.prog 26 #[ptr t, .int .i64 stop] w fun e w' => ∃ v, e = .returned (.tuple #[v, .bool true]) ∧ Kd.R Kd.string 9 w' w.heap.size (fun k => w.heap.size ≤ k) v (cut stop L) ∧ Below w.heap.size w w' := by
  obtain ⟨pv, hpv⟩ : ∃ pv, ptr t = pv := ⟨_, rfl⟩
  have HA : ∀ w1 : World, Below w.heap.size w w1 → Calls Try.prog 31 #[pv] w1 fun e w' => e = .returned (.func (.func 65) #[] #[.pointer (some ⟨w1.heap.size, 0, none⟩)]) ∧ Seq w' w1.heap.size w'.heap.size L ∧ Below w1.heap.size w1 w' := by
    intro w1 hb
    rw [← hpv]
    refine all_calls w1 base ok t L ?_ hl
    rcases t with _ | p
    · exact h
    · exact Tbl.below h hb
  rw [hpv]
  clear hpv h
  obtain ⟨i0, hi, hz0, hz1, hz2⟩ := info_parts info9
  have hfn : ∀ (x : Nat) (W : World), (binOp .eql 59 (.func (.func 65) #[] #[.pointer (some ⟨x, 0, none⟩)]) .nilFunc).run Try.prog W = .ok (.bool false) W := fun x W => by kernel_rfl
  refine (callsIn_wide (n := 3)).1 ?_
  refine callsIn_of_wp_marks Try.func26 rfl (by trivial) ?_ rfl
  simp only [Try.ntmps26, List.size_toArray, List.length_cons, List.length_nil, Nat.reduceAdd, Nat.reduceSub, Array.replicate_succ, Array.replicate_zero, List.push_toArray, List.append_toArray, List.nil_append, List.cons_append]
  gi_wp2_with fail
  have hb0 : Below w.heap.size w (((((w.alloc (Obj.cells #[Value.int IntKind.i64 stop] 3)).alloc (Obj.cells #[Value.slice none 0 0] 25)).alloc (Obj.cells #[Value.bool false] 4)).alloc (Obj.cells #[] 9)).alloc (Obj.cells #[Value.slice (some { block := w.heap.size + 1 + 1 + 1, off := 0 }) 0 0] 25)) :=
    (((((Below.refl _ w).alloc (Nat.le_refl _) _).alloc (by simp) _).alloc (by simp; omega) _).alloc (by simp; omega) _).alloc (by simp; omega) _
  have b1 := Boxed.new w 3 (.int .i64 stop)
  have b2 := Boxed.new (w.alloc (Obj.cells #[Value.int IntKind.i64 stop] 3)) 25 (.slice none 0 0)
  have b3 := Boxed.new ((w.alloc (Obj.cells #[Value.int IntKind.i64 stop] 3)).alloc (Obj.cells #[Value.slice none 0 0] 25)) 4 (.bool false)
  have r4 := World.ownsRow_made (((w.alloc (Obj.cells #[Value.int IntKind.i64 stop] 3)).alloc (Obj.cells #[Value.slice none 0 0] 25)).alloc (Obj.cells #[Value.bool false] 4)) #[] 0 (base := w.heap.size) (e := 9) (size := 1) (by simp; omega) (by simp) (by simp)
  have b5 := Boxed.new ((((w.alloc (Obj.cells #[Value.int IntKind.i64 stop] 3)).alloc (Obj.cells #[Value.slice none 0 0] 25)).alloc (Obj.cells #[Value.bool false] 4)).alloc (Obj.cells #[] 9)) 25 (.slice (some ⟨w.heap.size + 1 + 1 + 1, 0, none⟩) 0 0)
  have B1 := (((b1.alloc (Obj.cells #[Value.slice none 0 0] 25)).alloc (Obj.cells #[Value.bool false] 4)).alloc (Obj.cells #[] 9)).alloc (Obj.cells #[Value.slice (some { block := w.heap.size + 1 + 1 + 1, off := 0 }) 0 0] 25)
  have B2 := ((b2.alloc (Obj.cells #[Value.bool false] 4)).alloc (Obj.cells #[] 9)).alloc (Obj.cells #[Value.slice (some { block := w.heap.size + 1 + 1 + 1, off := 0 }) 0 0] 25)
  have B3 := (b3.alloc (Obj.cells #[] 9)).alloc (Obj.cells #[Value.slice (some { block := w.heap.size + 1 + 1 + 1, off := 0 }) 0 0] 25)
  have R4 := r4.alloc (Obj.cells #[Value.slice (some { block := w.heap.size + 1 + 1 + 1, off := 0 }) 0 0] 25)
  simp only [World.size_alloc] at B2 B3 R4 b5
  have hsz : (((((w.alloc (Obj.cells #[Value.int IntKind.i64 stop] 3)).alloc (Obj.cells #[Value.slice none 0 0] 25)).alloc (Obj.cells #[Value.bool false] 4)).alloc (Obj.cells #[] 9)).alloc (Obj.cells #[Value.slice (some { block := w.heap.size + 1 + 1 + 1, off := 0 }) 0 0] 25)).heap.size = w.heap.size + 5 := by simp
  clear b1 b2 b3 r4
  generalize (((((w.alloc (Obj.cells #[Value.int IntKind.i64 stop] 3)).alloc (Obj.cells #[Value.slice none 0 0] 25)).alloc (Obj.cells #[Value.bool false] 4)).alloc (Obj.cells #[] 9)).alloc (Obj.cells #[Value.slice (some { block := w.heap.size + 1 + 1 + 1, off := 0 }) 0 0] 25)) = W5 at *
  refine ⟨trivial, callsIn_wide.2 ((HA _ hb0).mono ?_)⟩
  clear HA
  rintro e w6 ⟨rfl, hS, hB6⟩
  rw [hsz] at hS hB6 ⊢
  have hI0 : ToldAt w w.heap.size w6.heap.size stop [] w6 := by
    have hx : ∀ {k : Nat} {q : TypeId} {u : Value}, k < w.heap.size + 5 → Boxed W5 k q u → Boxed w6 k q u := fun hk hb => (hB6.block _ hk).trans hb
    refine ⟨⟨.slice (some ⟨w.heap.size + 1 + 1 + 1, 0, none⟩) 0 0, hx (by omega) b5, ?_, ?_⟩, ⟨hx (by omega) B1, hx (by omega) B2, hx (by omega) B3⟩, Nat.le_refl _, below_then hb0 (by omega) (by rw [hsz]; exact hB6)⟩
    · have hR5 : Kd.R Kd.string 9 W5 w.heap.size (fun k => k < w.heap.size + 5) (.slice (some ⟨w.heap.size + 1 + 1 + 1, 0, none⟩) 0 0) [] := Kd.R_of_own (xs := ([] : List ByteArray)) R4 (fun k hk => by simp [Value.ownBlock] at hk; omega)
      exact Kd.own_of_R (xs := ([] : List ByteArray)) (Kd.R_step hR5 (fun k hk _ => hB6.block k hk))
    · intro k hk
      simp [Value.ownBlock] at hk
      omega
  gi_wp2_with fail
  refine wpIn_rangeFunc_ownG rfl (by omega) (gf := 65) (lb := #[.pointer (some ⟨w.heap.size + 5, 0, none⟩)]) rfl (by trivial) (enters_of Try.func65 (by kernel_rfl) rfl)
    (all_stops Fence.wide _ trivial rfl (by omega) w6 (w.heap.size + 5) w6.heap.size L (by omega) hS) KpS.trans (KpS.put (fun k hk => hk.2)) (Below.refl _ _) (fun _ => rfl)
    (fun pre W => ToldAt w w.heap.size w6.heap.size stop pre W ∧ ∀ j : Nat, 1 ≤ j → j ≤ pre.length → (j : Int) ≠ stop)
    (ToldX w w.heap.size w6.heap.size stop)
    ((toldAt_own w _ _ stop rfl (by have := hI0.2.2.2.size; omega)).and (ownFrom_pure _ _)) (fun c => toldX_own w _ _ stop rfl (by have := hI0.2.2.2.size; omega) c)
    ⟨hI0, fun j h1 h2 => by simp at h2; omega⟩
    (fun x => { tmps := #[pv, .int .i64 stop, undef, .pointer (some ⟨w.heap.size, 0, none⟩), .pointer (some ⟨w.heap.size + 1, 0, none⟩), .pointer (some ⟨w.heap.size + 1 + 1, 0, none⟩), .pointer (some ⟨w.heap.size + 1 + 1 + 1 + 1, 0, none⟩),
      .func (.func 65) #[] #[.pointer (some ⟨w.heap.size + 5, 0, none⟩)], .int .i64 (x.1 : Int), .string x.2, .slice (some ⟨w.heap.size + 1 + 1 + 1, 0, none⟩) 0 0, pv, .func (.func 65) #[] #[.pointer (some ⟨w.heap.size + 5, 0, none⟩)], .func (.func 65) #[] #[.pointer (some ⟨w.heap.size + 5, 0, none⟩)], .bool false, undef,
      .func (.func 65) #[] #[.pointer (some ⟨w.heap.size + 5, 0, none⟩)], .int .i64 (x.1 : Int), .string x.2, undef, undef, undef, undef, undef, undef, undef, undef, undef, undef, undef, undef, undef, undef], defers := [] }) ?assign ?body ?done ?stop
  case assign =>
    intro l x W K hK
    gi_wp2
    exact hK
  case body =>
    rintro l pre x W ⟨⟨⟨v, hv, hrow, hne⟩, ⟨B1, B2, B3⟩, hbW, hB⟩, hst⟩ hlt
    have hc0 := B1.cell
    have hc1 := B2.cell
    have hc2 := B3.cell
    have hf1 := B2.frozen
    have hf2 := B3.frozen
    have hc := hv.cell
    have hle : pre.length ≤ 100000 := by omega
    obtain ⟨A, cp, rfl⟩ : ∃ A cp, v = .slice A pre.length cp := by
      rcases hrow.2 with ⟨rfl, h0⟩ | ⟨g, cap, cur, rfl, _⟩
      · exact ⟨_, _, by rw [h0]⟩
      · exact ⟨_, _, rfl⟩
    by_cases hxe : x.1 = pre.length
    · obtain ⟨x1, x2⟩ := x
      dsimp only at hxe
      subst hxe
      gi_wp2_with (gi_at_builtin; go_must (refine wpListIn_append_own_at _ rfl (.tmp 24) (.tmp 26) 25 rfl w.heap.size 9 i0 (.string ⟨#[]⟩) 1 16 Try.underlying25 hi hz0 hz1 hz2 rfl (by decide) (.slice A pre.length cp) pre.length _ rfl (hrow.alloc _) ⟨W.heap.size, 0, none⟩ 1 1 [.string x2] rfl rfl (cell_one_new _ _ _) (by simp [Value.oneCell']) (by simp only [maxLen]; omega) (by omega) (by have := hB.size; simp; omega) ?_; intro v' w1 hown' hgrow _ hat; obtain ⟨g', cap', rfl⟩ := ownsRow_succ hown'; obtain ⟨hv1, hv2, hr2, hk2, hb2⟩ := hv.appended (by decide) hrow hB.size (by omega) hown' hgrow; have hcc1 := hv1.cell; have hff1 := hv1.frozen; obtain ⟨hI2, hkp, hko⟩ := told_step (x := (pre.length, x2)) rfl hv hrow hne B1 B2 B3 hbW hB hown' hgrow hat; have hd0 := hI2.2.1.1.cell; have hd1 := hI2.2.1.2.1.cell; have hd2 := hI2.2.1.2.2.cell))
      · have hx0 : ((pre.length : Int) + 1 == stop) = true := by assumption
        have hx : (pre.length : Int) + 1 = stop := eq_of_beq hx0
        exact ⟨hko.from _, .inr ⟨rfl, hI2, by simp; omega, by simp⟩⟩
      · have hx0 : ((pre.length : Int) + 1 == stop) = false := by assumption
        have hx : ¬ (pre.length : Int) + 1 = stop := ne_of_beq_false hx0
        refine ⟨hko.from _, hkp, hI2, fun j h1 h2 => ?_⟩
        by_cases hj : j ≤ pre.length
        · exact hst j h1 hj
        · have : j = pre.length + 1 := by simp at h2; omega
          subst this
          simpa using hx
    · have hxe' : ((x.1 : Int) != (pre.length : Int)) = true := by simp; omega
      gi_wp2
      exact ⟨((KeepsOthers.setCell _ _ _).trans (KeepsOthers.setCell _ _ _)).from _, .inl ⟨rfl, pre, x, rfl, hxe⟩⟩
  case done =>
    rintro D ys W hD rfl ⟨⟨⟨v, hv, hrow, hne⟩, ⟨B1, B2, B3⟩, hbW, hB⟩, hst⟩ hK
    have hc0 := B1.cell
    have hc1 := B2.cell
    have hc2 := B3.cell
    have hf1 := B2.frozen
    have hf2 := B3.frozen
    have hc := hv.cell
    obtain ⟨A, cp, rfl⟩ : ∃ A cp, v = .slice A (upto L L.length).length cp := by
      rcases hrow.2 with ⟨rfl, h0⟩ | ⟨g, cap, cur, rfl, _⟩
      · exact ⟨_, _, by rw [h0]⟩
      · exact ⟨_, _, rfl⟩
    obtain ⟨W2, hW2, hK2, hr1, hr2, hR, hB2⟩ := told_end rfl hv hrow B2 B3 hB (by have := hB6.size; omega) hK
    rw [upto_length] at hc hW2
    gi_wp2
    rw [← hW2]
    refine ⟨by simp, .inl ⟨_, _, rfl, run_takeDeferred hK2, ?_⟩⟩
    rw [upto_snd L (Nat.le_refl _), List.take_length, upto_length] at hR
    refine ⟨.tuple #[.slice A L.length cp, .bool true], ?_, _, rfl, ?_, hB2⟩
    · simp [results, Try.f26, go_sem, hr1, hr2, upto_length]
    · rw [show cut stop L = L from ?_]
      · exact hR
      · unfold cut
        split
        · rename_i h1
          refine List.take_of_length_le ?_
          rcases Nat.lt_or_ge L.length stop.toNat with h | h
          · omega
          · exact absurd (by omega) (hst stop.toNat (by omega) (by rw [upto_length]; exact h))
        · rfl
  case stop =>
    rintro D c pre W hD ⟨k, hk, rfl⟩ hX hK
    rcases hX with ⟨rfl, ini, last, e1, e2⟩ | ⟨rfl, ⟨⟨v, hv, hrow, hne⟩, ⟨B1, B2, B3⟩, hbW, hB⟩, hst, hone⟩
    · exfalso
      obtain ⟨k', rfl⟩ : ∃ k', k = k' + 1 := by
        cases k with
        | zero => simp [upto] at e1
        | succ k' => exact ⟨k', rfl⟩
      rw [upto_succ] at e1
      obtain ⟨rfl, e5⟩ := List.append_inj' e1 rfl
      obtain rfl : (k', L.getD k' ByteArray.empty) = last := by simpa using e5
      exact e2 (by rw [upto_length])
    · have hc0 := B1.cell
      have hc1 := B2.cell
      have hc2 := B3.cell
      have hf1 := B2.frozen
      have hf2 := B3.frozen
      have hc := hv.cell
      obtain ⟨A, cp, rfl⟩ : ∃ A cp, v = .slice A (upto L k).length cp := by
        rcases hrow.2 with ⟨rfl, h0⟩ | ⟨g, cap, cur, rfl, _⟩
        · exact ⟨_, _, by rw [h0]⟩
        · exact ⟨_, _, rfl⟩
      obtain ⟨W2, hW2, hK2, hr1, hr2, hR, hB2⟩ := told_end rfl hv hrow B2 B3 hB (by have := hB6.size; omega) hK
      rw [upto_length] at hc hW2 hst
      gi_wp2
      rw [← hW2]
      refine ⟨by simp, .inl ⟨_, _, rfl, run_takeDeferred hK2, ?_⟩⟩
      rw [upto_snd L hk] at hR
      refine ⟨.tuple #[.slice A k cp, .bool true], ?_, _, rfl, ?_, hB2⟩
      · simp [results, Try.f26, go_sem, hr1, hr2, upto_length]
      · rw [upto_length] at hone hR
        rw [show cut stop L = L.take k from ?_]
        · exact hR
        · unfold cut
          rw [if_pos (by omega), show stop.toNat = k by omega]

end Go.Proofs.Ytgcjfobmccoibaa.Nm
