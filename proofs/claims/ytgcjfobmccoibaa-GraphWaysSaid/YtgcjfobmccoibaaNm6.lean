/- The document's answer for Put: its list, its number, its fault; and the fixed fact. No condition but those that each theorem states. -/
import Derived.Test.YtgcjfobmccoibaaNm5
set_option linter.unusedSimpArgs false
set_option linter.unusedVariables false
namespace Go.Proofs.Ytgcjfobmccoibaa.Nm
open Go.RowKit Go.Proofs.YtgcjfobmccoibaaW.PrintWords Go.Proofs.YtgcjfobmccoibaaW.PrintLast Go.Proofs.YtgcjfobmccoibaaW.PrintMore

theorem idx_at {s : ByteArray} {L : List ByteArray} {j : Nat} (hj : j < L.length) (h : s ∉ L.take j) (e : L.getD j ByteArray.empty = s) : idx s L = some j := by
  induction L generalizing j with
  | nil => simp at hj
  | cons x L ih =>
    cases j with
    | zero => simp at e; simp [idx, e]
    | succ j =>
      simp only [List.take_succ_cons, List.mem_cons, not_or] at h
      simp only [idx]
      rw [if_neg (fun e => h.1 e.symm), ih (by simpa using hj) h.2 (by simpa using e)]
      rfl

set_option maxRecDepth 100000 in
set_option maxHeartbeats 1000000 in
theorem rfind_calls (w : World) (A : Option Addr) (c : Nat) (L : List ByteArray) (s : ByteArray) (hc : Kd.C Kd.string w A L.length L) (hl : L.length ≤ 9223372036854775806) :
    Calls Try.prog 25 #[.slice A L.length c, .string s] w fun e w' => e = .returned (.tuple #[.int .i64 (((idx s L).getD 0 : Nat) : Int), .bool (idx s L).isSome]) ∧ w = w' := by
  have HC := Aside0.mk hc
  clear hc
  go_enter Try.func25, Try.ntmps25
  go_wp2
  go_loop [6] (fun i => ∃ k : Nat, k ≤ L.length ∧ i = .int .i64 (k : Int) ∧ Aside0 (s ∉ L.take k)) (fun i => L.length - (intOf i).toNat)
  case atStart => exact ⟨0, Nat.zero_le _, rfl, ⟨by simp⟩⟩
  case round =>
    obtain ⟨k, hk, rfl, hn⟩ := hrel
    by_cases hlt : k < L.length
    · obtain ⟨ad, cc, rfl, hcl, hK, hcc⟩ := Kd.C_get HC.out ByteArray.empty (k : Int) (by omega) (by omega)
      have hK' : cc = [.string (L.getD k ByteArray.empty)] := hK
      subst hK'
      have hx : w.cell? (ad.add k) = some (.string (L.getD k ByteArray.empty)) := by
        have := hcc 0 _ rfl
        simpa [Kd.string, Kd.scalar] using this
      clear hK hcl hcc
      obtain ⟨t, ht⟩ : ∃ t, t = L.getD k ByteArray.empty := ⟨_, rfl⟩
      rw [← ht] at hx
      have HT := Aside0.mk ht
      clear ht
      by_cases he : t = s
      · subst he
        have e1 : (t.toList == t.toList) = true := by simp
        go_wp2
        go_ret2
        refine ⟨?_, rfl⟩
        rw [idx_at hlt hn.out HT.out.symm]
        rfl
      · have e1 : (t.toList == s.toList) = false := bytes_ne he
        have HE := Aside0.mk he
        clear he
        go_wp2
        go_round
        case rel =>
          refine ⟨k + 1, by omega, by go_num, ⟨?_⟩⟩
          rw [List.take_succ_eq_append_getElem hlt, List.mem_append, not_or]
          refine ⟨hn.out, ?_⟩
          have : L[k] = t := by rw [HT.out]; simp [hlt]
          rw [this]
          simpa using fun e : s = t => HE.out e.symm
        case measure => simp [intOf]; omega
    · have hk' : k = L.length := by omega
      have HK := Aside0.mk hk'
      clear hk'
      go_wp2
      go_ret2
      refine ⟨?_, rfl⟩
      have : idx s L = none := idx_none.2 (by have := hn.out; rw [HK.out, List.take_length] at this; exact this)
      rw [this]
      rfl

set_option maxHeartbeats 1000000 in
theorem named_calls (w : World) (c : Int) (n : ByteArray) :
    Calls Try.prog 57 #[.int .i64 c, .string n] w fun e w' => e = .returned (.agg #[.int .i64 c, .int .i64 (-1), .string n, .slice none 0 0]) ∧ Below w.heap.size w w' := by
  go_enter Try.func57, Try.ntmps57
  go_wp2
  exact bodyPost_ret (v := .agg #[.int .i64 c, .int .i64 (-1), .string n, .slice none 0 0]) (by simp [results, Try.results57, go_sem]) rfl ⟨rfl, (Below.refl _ _).alloc (Nat.le_refl _) _⟩

set_option maxHeartbeats 1000000 in
theorem no_calls (w : World) :
    Calls Try.prog 58 #[] w fun e w' => e = .returned (.agg #[.int .i64 0, .int .i64 0, .string ⟨#[]⟩, .slice none 0 0]) ∧ Below w.heap.size w w' := by
  go_enter Try.func58, Try.ntmps58
  go_wp2
  exact bodyPost_ret (v := .agg #[.int .i64 0, .int .i64 0, .string ⟨#[]⟩, .slice none 0 0]) (by simp [results, Try.results58, go_sem]) rfl ⟨rfl, (Below.refl _ _).alloc (Nat.le_refl _) _⟩

/-- The fault that a chain of one or none is, as a value. -/
def fVal : List (Int × Int × ByteArray) → Value
  | [] => .agg #[.int .i64 0, .int .i64 0, .string ⟨#[]⟩, .slice none 0 0]
  | (c, a, n) :: _ => .agg #[.int .i64 c, .int .i64 a, .string n, .slice none 0 0]

/-- Four cells of a fault written into block g. -/
def set4 (w : World) (g : Nat) (c a : Int) (n : ByteArray) : World :=
  (((w.setCell ⟨g, 0, none⟩ (.int .i64 c)).setCell ⟨g, 1, none⟩ (.int .i64 a)).setCell ⟨g, 2, none⟩ (.string n)).setCell ⟨g, 3, none⟩ (.slice none 0 0)
theorem set4_blk {w : World} {g : Nat} {x0 x1 x2 x3 : Value} (h : w.heap[g]? = some (.cells #[x0, x1, x2, x3] 33 (0, 0))) (c a : Int) (n : ByteArray) :
    (set4 w g c a n).heap[g]? = some (.cells #[.int .i64 c, .int .i64 a, .string n, .slice none 0 0] 33 (0, 0)) :=
  blk_put (blk_put (blk_put (blk_put h 0 (.int .i64 c) rfl) 1 (.int .i64 a) rfl) 2 (.string n) rfl) 3 (.slice none 0 0) rfl
theorem set4_below {w0 w : World} {B g : Nat} (h : Below B w0 w) (hg : B ≤ g) (c a : Int) (n : ByteArray) : Below B w0 (set4 w g c a n) :=
  (((h.setCell hg _).setCell hg _).setCell hg _).setCell hg _
theorem set4_kept {w0 w : World} {S : Nat → Prop} {g : Nat} (h : Kept w0 w S) (hg : w0.heap.size ≤ g) (c a : Int) (n : ByteArray) : Kept w0 (set4 w g c a n) S :=
  (((h.setCell (.inr hg) _).setCell (.inr hg) _).setCell (.inr hg) _).setCell (.inr hg) _
theorem set4_R {α : Type} {d : Kd α} {e base : Nat} {w : World} {ok : Nat → Prop} {v : Value} {xs : List α} (h : d.R e w base ok v xs) {g : Nat} {x0 x1 x2 x3 : Value} (hb : w.heap[g]? = some (.cells #[x0, x1, x2, x3] 33 (0, 0))) (ht : ∀ q, q ∈ e :: d.E → q ≠ 33) (c a : Int) (n : ByteArray) : d.R e (set4 w g c a n) base ok v xs := by
  have h1 := Kd.R_set h hb ht 0 (.int .i64 c)
  have b1 := blk_put hb 0 (.int .i64 c) rfl
  have h2 := Kd.R_set h1 b1 ht 1 (.int .i64 a)
  have b2 := blk_put b1 1 (.int .i64 a) rfl
  have h3 := Kd.R_set h2 b2 ht 2 (.string n)
  have b3 := blk_put b2 2 (.string n) rfl
  exact Kd.R_set h3 b3 ht 3 (.slice none 0 0)

theorem box_below (w : World) (o : Obj) (n : Nat) : Below w.heap.size w ((w.alloc o).drewN n) := pw_below_drewN ((Below.refl _ _).alloc (Nat.le_refl _) _) n

/-- The three results of the document's Put, out of its frame. -/
theorem res18 {tmps : Array Value} {W : World} {v : Value} {k c a : Int} {n : ByteArray} {g : Nat} (h4 : tmps.getD 4 undef = v) (h5 : tmps.getD 5 undef = .int .i64 k) (h6 : tmps.getD 6 undef = .pointer (some ⟨g, 0, none⟩))
    (hg : W.heap[g]? = some (.cells #[.int .i64 c, .int .i64 a, .string n, .slice none 0 0] 33 (0, 0))) :
    (results Try.f18 tmps).run Try.prog W = .ok (.tuple #[v, .int .i64 k, .agg #[.int .i64 c, .int .i64 a, .string n, .slice none 0 0]]) W := by
  refine results_list (rs := [.tmp 4, .tmp 5, .cell 6 33]) rfl (vs := [v, .int .i64 k, .agg #[.int .i64 c, .int .i64 a, .string n, .slice none 0 0]]) (by simp) ?_
  rw [← h4, ← h5]
  exact .tmp (.tmp (.cell g 33 #[.int .i64 c, .int .i64 a, .string n, .slice none 0 0] (0, 0) _ h6 hg Try.underlying33 rfl (by kernel_rfl) .nil))

set_option maxRecDepth 100000 in
set_option maxHeartbeats 1000000 in
theorem rput_bad {w : World} {v : Value} (s : ByteArray) (hg : goodB s = false) :
    Calls Try.prog 18 #[v, .string s] w fun e w' => e = .returned (.tuple #[v, .int .i64 0, fVal [(30, -1, s)]]) ∧ Below w.heap.size w w' := by
  have HG := Lib.hid hg
  clear hg
  go_enter Try.func18, Try.ntmps18
  go_wp2_with (first | (go_at_call 24; refine (rgood_calls s _).mono ?_; rw [HG.out]; rintro e w' ⟨rfl, ⟨n, rfl⟩⟩) | (go_at_call 57; refine (named_calls _ _ _).mono ?_; rintro e w2 ⟨rfl, hb⟩; have hx := blk_below (blk_drewN (blk_last w _) _) hb; have c0 := blk_cell hx 0; have c1 := blk_cell hx 1; have c2 := blk_cell hx 2; have c3 := blk_cell hx 3; have f0 := blk_frozen hx 0; have f1 := blk_frozen hx 1; have f2 := blk_frozen hx 2; have f3 := blk_frozen hx 3; have HX := Aside0.mk hx; have HB := Aside0.mk hb; clear hx hb))
  exact bodyPost_ret (res18 rfl rfl rfl (set4_blk HX.out _ _ _)) rfl ⟨rfl, set4_below (below_then (box_below w _ n) (box_below w _ n).size HB.out) (Nat.le_refl _) _ _ _⟩

theorem C_box {w : World} {α : Type} {d : Kd α} {A : Option Addr} {k : Nat} {xs : List α} (h : d.C w A k xs) (o : Obj) : ∀ n, d.C ((w.alloc o).drewN n) A k xs := fun n => Kd.C_below (Kd.C_below h (below_alloc (Below.refl _ _) o)) (below_drawn _ n)

set_option maxRecDepth 100000 in
set_option maxHeartbeats 1000000 in
theorem rput_there {w : World} {A : Option Addr} {c : Nat} {L : List ByteArray} (hc : Kd.C Kd.string w A L.length L) (hl : L.length ≤ 1024) (s : ByteArray) (hg : goodB s = true) (i : Nat) (hi : idx s L = some i) :
    Calls Try.prog 18 #[.slice A L.length c, .string s] w fun e w' => e = .returned (.tuple #[.slice A L.length c, .int .i64 (i : Int), fVal []]) ∧ Below w.heap.size w w' := by
  have HG := Lib.hid hg
  have HI := Lib.hid hi
  have HC := Aside0.mk (C_box hc (.cells #[.int .i64 0, .int .i64 0, .string ⟨#[]⟩, .slice none 0 0] 33))
  clear hg hi hc
  go_enter Try.func18, Try.ntmps18
  go_wp2_with (first | (go_at_call 24; refine (rgood_calls s _).mono ?_; rw [HG.out]; rintro e w' ⟨rfl, ⟨n, rfl⟩⟩) | (go_at_call 25; refine (rfind_calls _ A c L s (by exact HC.out _) (by omega)).mono ?_; rw [HI.out]; rintro e w' ⟨rfl, rfl⟩; simp only [Option.getD_some, Option.isSome_some, Option.getD_none, Option.isSome_none]) | (go_at_call 58; refine (no_calls _).mono ?_; rintro e w2 ⟨rfl, hb⟩; have hx := blk_below (blk_drewN (blk_last w _) _) hb; have c0 := blk_cell hx 0; have c1 := blk_cell hx 1; have c2 := blk_cell hx 2; have c3 := blk_cell hx 3; have f0 := blk_frozen hx 0; have f1 := blk_frozen hx 1; have f2 := blk_frozen hx 2; have f3 := blk_frozen hx 3; have HX := Aside0.mk hx; have HB := Aside0.mk hb; clear hx hb))
  exact bodyPost_ret (res18 rfl rfl rfl (set4_blk HX.out _ _ _)) rfl ⟨rfl, set4_below (below_then (box_below w _ n) (box_below w _ n).size HB.out) (Nat.le_refl _) _ _ _⟩

set_option maxRecDepth 100000 in
set_option maxHeartbeats 1000000 in
theorem rput_full {w : World} {A : Option Addr} {c : Nat} {L : List ByteArray} (hc : Kd.C Kd.string w A L.length L) (s : ByteArray) (hg : goodB s = true) (hi : idx s L = none) (hf : L.length = 1024) :
    Calls Try.prog 18 #[.slice A L.length c, .string s] w fun e w' => e = .returned (.tuple #[.slice A L.length c, .int .i64 0, fVal [(31, -1, s)]]) ∧ Below w.heap.size w w' := by
  have HG := Lib.hid hg
  have HI := Lib.hid hi
  have HC := Aside0.mk (C_box hc (.cells #[.int .i64 0, .int .i64 0, .string ⟨#[]⟩, .slice none 0 0] 33))
  have hl : L.length ≤ 1024 := by omega
  have hf1 : decide (1024 ≤ L.length) = true := by simp [hf]
  have hf2 : decide (1024 ≤ (L.length : Int)) = true := by simp [hf]
  clear hg hi hc hf
  go_enter Try.func18, Try.ntmps18
  go_wp2_with (first | (go_at_call 24; refine (rgood_calls s _).mono ?_; rw [HG.out]; rintro e w' ⟨rfl, ⟨n, rfl⟩⟩) | (go_at_call 25; refine (rfind_calls _ A c L s (by exact HC.out _) (by omega)).mono ?_; rw [HI.out]; rintro e w' ⟨rfl, rfl⟩; simp only [Option.getD_some, Option.isSome_some, Option.getD_none, Option.isSome_none]) | (go_at_call 57; refine (named_calls _ _ _).mono ?_; rintro e w2 ⟨rfl, hb⟩; have hx := blk_below (blk_drewN (blk_last w _) _) hb; have c0 := blk_cell hx 0; have c1 := blk_cell hx 1; have c2 := blk_cell hx 2; have c3 := blk_cell hx 3; have f0 := blk_frozen hx 0; have f1 := blk_frozen hx 1; have f2 := blk_frozen hx 2; have f3 := blk_frozen hx 3; have HX := Aside0.mk hx; have HB := Aside0.mk hb; clear hx hb))
  exact bodyPost_ret (res18 rfl rfl rfl (set4_blk HX.out _ _ _)) rfl ⟨rfl, set4_below (below_then (box_below w _ n) (box_below w _ n).size HB.out) (Nat.le_refl _) _ _ _⟩

theorem len_snoc {α : Type} (L : List α) (s : α) : (L ++ [s]).length = L.length + 1 := by simp
theorem t9_33 : (9 : TypeId) ≠ 33 := by decide

/-- What the document's Put leaves of a new name. -/
theorem rput_end {w0 w w1 w2 : World} {n : Nat} {ok : Nat → Prop} {o : Obj} {L : List ByteArray} {v v1 : Value} {x0 x1 x2 x3 : Value} (hv : ∀ k, v.ownBlock = some k → ok k) (hB : Below w0.heap.size w0 w)
    (HS : Kd.string.R 9 w1 w0.heap.size (fun k => ok k ∨ w.heap.size ≤ k) v1 L) (HB1 : Below w0.heap.size w0 w1) (HG : ((w.alloc o).drewN n).grownBy w1 v.ownBlock) (HB2 : Below w1.heap.size w1 w2)
    (HX : w2.heap[w.heap.size]? = some (.cells #[x0, x1, x2, x3] 33 (0, 0))) (c a : Int) (s : ByteArray) :
    Kd.string.R 9 (set4 w2 w.heap.size c a s) w0.heap.size (fun k => ok k ∨ w.heap.size ≤ k) v1 L ∧ Below w0.heap.size w0 (set4 w2 w.heap.size c a s) ∧ Kept w (set4 w2 w.heap.size c a s) ok := by
  refine ⟨set4_R (Kd.R_below HS HB2) HX (by decide) _ _ _, set4_below (below_then HB1 HB1.size HB2) hB.size _ _ _, set4_kept ?_ (Nat.le_refl _) _ _ _⟩
  have h1 : Kept w ((w.alloc o).drewN n) ok := Kept.of_below (box_below w o n) ok
  exact (Kept.of_grown HG h1 (fun k hk => .inl (hv k hk))).below HB2

set_option maxRecDepth 100000 in
set_option maxHeartbeats 1000000 in
theorem rput_new {w0 w : World} {ok : Nat → Prop} {v : Value} {L : List ByteArray} (hB : Below w0.heap.size w0 w) (ho : Kd.R Kd.string 9 w w0.heap.size ok v L) (s : ByteArray) (hg : goodB s = true) (hi : idx s L = none) (hf : L.length < 1024) :
    Calls Try.prog 18 #[v, .string s] w fun e w' => ∃ v', e = .returned (.tuple #[v', .int .i64 (L.length : Int), fVal []]) ∧ Kd.R Kd.string 9 w' w0.heap.size (fun k => ok k ∨ w.heap.size ≤ k) v' (L ++ [s]) ∧ Below w0.heap.size w0 w' ∧ Kept w w' ok := by
  obtain ⟨A, c, rfl, hlc, hc⟩ := Kd.R_reads ho
  have HG := Lib.hid hg
  have HI := Lib.hid hi
  have HC := Aside0.mk (C_box hc (.cells #[.int .i64 0, .int .i64 0, .string ⟨#[]⟩, .slice none 0 0] 33))
  have HL := Aside0.mk hf
  have HV := Aside0.mk ho.1
  have HXB := Aside0.mk (fun n => blk_drewN (blk_last w (.cells #[.int .i64 0, .int .i64 0, .string ⟨#[]⟩, .slice none 0 0] 33)) n)
  have HR := Aside0.mk (Kd.R_mono ho (ok' := fun k => ok k ∨ w.heap.size ≤ k) (fun _ h => .inl h))
  have HB := Aside0.mk hB
  have hf1 : decide (1024 ≤ L.length) = false := by simp; omega
  have hf2 : decide (1024 ≤ (L.length : Int)) = false := by simp; omega
  have hl : L.length ≤ 1024 := by omega
  clear hg hi hc hf ho hB
  go_enter Try.func18, Try.ntmps18
  go_wp2_with (first | (go_at_call 24; refine (rgood_calls s _).mono ?_; rw [HG.out]; rintro e w' ⟨rfl, ⟨n, rfl⟩⟩) | (go_at_call 25; refine (rfind_calls _ A c L s (by exact HC.out _) (by omega)).mono ?_; rw [HI.out]; rintro e w' ⟨rfl, rfl⟩; simp only [Option.getD_some, Option.isSome_some, Option.getD_none, Option.isSome_none]) | (at_builtin; go_must (refine Kd.R_append Kd.string (w0 := w0) (W := (w.alloc (.cells #[.int .i64 0, .int .i64 0, .string ⟨#[]⟩, .slice none 0 0] 33)).drewN n) w0.heap.size rfl (.tmp 31) (.tmp 33) 25 9 (.string ⟨#[]⟩) 16 rfl Try.underlying25 info9 rfl (by decide) (by decide) (.slice A L.length c) L s [.string s] (fun k => ok k ∨ w.heap.size ≤ k) (fun _ => False) rfl (by show Value.slice (some ⟨w.heap.size + 1, 0, none⟩) 1 1 = _; simp) rfl (fun _ h => h.elim) (fun k h => .inr (Nat.le_trans (box_below w _ n).size h)) (Kd.R_below HR.out (box_below w _ n)) (below_then HB.out HB.out.size (box_below w _ n)) (Nat.le_trans HB.out.size (box_below w _ n).size) (by have := HL.out; omega) ?_); go_must (intro v1 w1 hR hB1 hg hat; obtain ⟨A1, cc, rfl⟩ := Kd.R_slice hR; have HX1 := Aside0.mk (blk_grown (HXB.out n) hg (Kd.R_ne (Kd.R_below HR.out (box_below w (.cells #[.int .i64 0, .int .i64 0, .string ⟨#[]⟩, .slice none 0 0] 33) n)) (HXB.out n) t9_33)); have HS := Aside0.mk hR; have HB1 := Aside0.mk hB1; have HGr := Aside0.mk hg; clear hR hB1 hg hat)) | (go_at_call 58; refine (no_calls _).mono ?_; rintro e w2 ⟨rfl, hb⟩; have hx := blk_below HX1.out hb; have c0 := blk_cell hx 0; have c1 := blk_cell hx 1; have c2 := blk_cell hx 2; have c3 := blk_cell hx 3; have f0 := blk_frozen hx 0; have f1 := blk_frozen hx 1; have f2 := blk_frozen hx 2; have f3 := blk_frozen hx 3; have HX := Aside0.mk hx; have HB2 := Aside0.mk hb; clear hx hb))
  exact bodyPost_ret (res18 rfl rfl rfl (set4_blk HX.out _ _ _)) rfl ⟨_, rfl, rput_end HV.out HB.out (by have h := HS.out; rwa [len_snoc] at h) HB1.out HGr.out HB2.out HX.out _ _ _⟩

/-- The document's Put, all its ways together: the same list, number and fault as Put's. -/
theorem rput_calls {w0 w : World} {ok : Nat → Prop} {v : Value} {L : List ByteArray} (hB : Below w0.heap.size w0 w) (ho : Kd.R Kd.string 9 w w0.heap.size ok v L) (hl : L.length ≤ 1024) (s : ByteArray) :
    Calls Try.prog 18 #[v, .string s] w fun e w' => ∃ v', e = .returned (.tuple #[v', .int .i64 (putN L s : Int), fVal (putE L s)]) ∧ Kd.R Kd.string 9 w' w0.heap.size (fun k => ok k ∨ w.heap.size ≤ k) v' (putL L s) ∧ Below w0.heap.size w0 w' ∧ Kept w w' ok := by
  have hT : ∀ {w'}, Below w.heap.size w w' → Kd.R Kd.string 9 w' w0.heap.size (fun k => ok k ∨ w.heap.size ≤ k) v L := fun hb => Kd.R_mono (Kd.R_below ho hb) (fun _ hk => .inl hk)
  cases hg : goodB s with
  | false =>
    refine (rput_bad s hg).mono ?_
    rintro e w' ⟨rfl, hb⟩
    refine ⟨v, by simp [putN, putE, hg], ?_, below_then hB hB.size hb, Kept.of_below hb _⟩
    have : putL L s = L := by simp [putL, hg]
    rw [this]; exact hT hb
  | true =>
    cases hi : idx s L with
    | some i =>
      obtain ⟨A, c, rfl, hlc, hc⟩ := Kd.R_reads ho
      refine (rput_there hc hl s hg i hi).mono ?_
      rintro e w' ⟨rfl, hb⟩
      refine ⟨.slice A L.length c, by simp [putN, putE, hg, hi], ?_, below_then hB hB.size hb, Kept.of_below hb _⟩
      have : putL L s = L := by simp [putL, hi]
      rw [this]; exact hT hb
    | none =>
      by_cases hf : L.length = 1024
      · obtain ⟨A, c, rfl, hlc, hc⟩ := Kd.R_reads ho
        refine (rput_full hc s hg hi hf).mono ?_
        rintro e w' ⟨rfl, hb⟩
        refine ⟨.slice A L.length c, by simp [putN, putE, hg, hi, hf], ?_, below_then hB hB.size hb, Kept.of_below hb _⟩
        have : putL L s = L := by simp [putL, hf]
        rw [this]; exact hT hb
      · refine (rput_new hB ho s hg hi (by omega)).mono ?_
        rintro e w' ⟨v', rfl, hr, hb, hk⟩
        refine ⟨v', by simp [putN, putE, hg, hi, hf], ?_, hb, hk⟩
        have : putL L s = L ++ [s] := by simp [putL, hg, hi, hf]
        rw [this]; exact hr

end Go.Proofs.Ytgcjfobmccoibaa.Nm
