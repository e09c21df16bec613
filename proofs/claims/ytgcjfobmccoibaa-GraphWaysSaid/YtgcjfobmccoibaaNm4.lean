/- What Name and Put of a table come to; errors as they lie in memory. No condition but those that each theorem states. -/
import Derived.Test.YtgcjfobmccoibaaNm3
import Derived.Lib.Hide
import Derived.Deep.DeepMust
namespace Go.Proofs.Ytgcjfobmccoibaa.Nm
open Go.RowKit Go.Proofs.YtgcjfobmccoibaaW.PrintWords Go.Proofs.YtgcjfobmccoibaaW.PrintLast Go.Proofs.YtgcjfobmccoibaaW.PrintMore

/-- An error value: nil, or a chain of faults: each with its code, its place, its name. -/
def IsErr (w : World) (ok : Nat → Prop) : Value → List (Int × Int × ByteArray) → Prop
  | ev, [] => ev = .nilIface
  | ev, (c, a, n) :: r => ∃ b cv, ev = .iface 93 (.pointer (some ⟨b, 0, none⟩)) ∧ ok b ∧ w.heap[b]? = some (.cells #[.int .i64 c, .int .i64 a, .string n, cv] 96 (0, 0)) ∧ IsErr w ok cv r

theorem IsErr.step {w w1 : World} {ok : Nat → Prop} (hm : ∀ k, ok k → k < w.heap.size → w1.heap[k]? = w.heap[k]?) : ∀ {r : List (Int × Int × ByteArray)} {ev : Value}, IsErr w ok ev r → IsErr w1 ok ev r
  | [], _, h => h
  | (_, _, _) :: _, _, ⟨b, cv, h1, h2, h3, h4⟩ => ⟨b, cv, h1, h2, (hm b h2 (blk_lt h3)).trans h3, h4.step hm⟩
theorem IsErr.mono {w : World} {ok ok' : Nat → Prop} (hok : ∀ k, ok k → ok' k) : ∀ {r : List (Int × Int × ByteArray)} {ev : Value}, IsErr w ok ev r → IsErr w ok' ev r
  | [], _, h => h
  | (_, _, _) :: _, _, ⟨b, cv, h1, h2, h3, h4⟩ => ⟨b, cv, h1, hok _ h2, h3, h4.mono hok⟩
theorem IsErr.below {w w1 : World} {ok : Nat → Prop} {r : List (Int × Int × ByteArray)} {ev : Value} (h : IsErr w ok ev r) (hb : Below w.heap.size w w1) : IsErr w1 ok ev r := h.step (fun k _ hk => hb.block k hk)
theorem IsErr.kept {w w1 : World} {ok S : Nat → Prop} {r : List (Int × Int × ByteArray)} {ev : Value} (h : IsErr w ok ev r) (hk : Kept w w1 S) (hne : ∀ k, ok k → ¬ S k) : IsErr w1 ok ev r := h.step (fun k ho hlt => hk.2 k hlt (hne k ho))

set_option maxRecDepth 100000 in
set_option maxHeartbeats 1000000 in
theorem name_out {w : World} {base p : Nat} {ok : Nat → Prop} {L : List ByteArray} (h : Tbl w base ok p L) (n : Int) (hn : n < 0 ∨ (L.length : Int) ≤ n) :
    Calls Try.prog 21 #[.pointer (some ⟨p, 0, none⟩), .int .i64 n] w fun e w' => e = .returned (.tuple #[.string ⟨#[]⟩, .bool false]) ∧ w = w' := by
  rcases hn with hn | hn
  · go_enter Try.func21, Try.ntmps21
    go_wp2_with fail
    go_ret2
    exact ⟨rfl, rfl⟩
  · by_cases h0 : n < 0
    · go_enter Try.func21, Try.ntmps21
      go_wp2_with fail
      go_ret2
      exact ⟨rfl, rfl⟩
    · go_enter Try.func21, Try.ntmps21
      go_wp2_with (go_at_call 20; refine (len_calls h).mono ?_; rintro e w' ⟨rfl, rfl⟩)
      go_ret2
      exact ⟨rfl, rfl⟩

set_option maxRecDepth 100000 in
set_option maxHeartbeats 1000000 in
theorem name_in {w : World} {base p : Nat} {ok : Nat → Prop} {L : List ByteArray} (h : Tbl w base ok p L) (n : Nat) (hn : n < L.length) :
    Calls Try.prog 21 #[.pointer (some ⟨p, 0, none⟩), .int .i64 (n : Int)] w fun e w' => e = .returned (.tuple #[.string (L.getD n ByteArray.empty), .bool true]) ∧ w = w' := by
  obtain ⟨A, c, bm, c0, c1, hb, hl, hc, f0⟩ := h.cells
  obtain ⟨ad, cc, rfl, hcl, hK, hcc⟩ := Kd.C_get hc ByteArray.empty (n : Int) (by omega) (by omega)
  have hK' : cc = [.string (L.getD n ByteArray.empty)] := hK
  subst hK'
  have hx : w.cell? (ad.add n) = some (.string (L.getD n ByteArray.empty)) := by
    have := hcc 0 _ rfl
    simpa [Kd.string, Kd.scalar] using this
  generalize L.getD n ByteArray.empty = s at hx
  have h1 : ¬ ((n : Int) < 0) := by omega
  go_enter Try.func21, Try.ntmps21
  go_wp2_with (go_at_call 20; refine (len_calls h).mono ?_; rintro e w' ⟨rfl, rfl⟩)
  go_ret2
  exact ⟨rfl, rfl⟩

/-- What Put answers: the names behind it, the number, the fault. -/
def putL (L : List ByteArray) (s : ByteArray) : List ByteArray := if goodB s = true ∧ idx s L = none ∧ L.length ≠ 1024 then L ++ [s] else L
def putN (L : List ByteArray) (s : ByteArray) : Nat := if goodB s = true then ((idx s L).getD (if L.length = 1024 then 0 else L.length)) else 0
def putE (L : List ByteArray) (s : ByteArray) : List (Int × Int × ByteArray) := if goodB s = true then (if idx s L = none ∧ L.length = 1024 then [(31, -1, s)] else []) else [(30, -1, s)]

theorem isErr_made {w W : World} (hb : Below w.heap.size w W) (c a : Int) (n : ByteArray) : IsErr (W.alloc (.cells #[.int .i64 c, .int .i64 a, .string n, .nilIface] 96)) (fun k => w.heap.size ≤ k) (.iface 93 (.pointer (some ⟨W.heap.size, 0, none⟩))) [(c, a, n)] :=
  ⟨W.heap.size, .nilIface, rfl, hb.size, blk_last W _, rfl⟩
theorem below_drawn (w : World) (n : Nat) : Below w.heap.size w (w.drewN n) := Drawn0.below ⟨⟨n, rfl⟩⟩

set_option maxRecDepth 100000 in
set_option maxHeartbeats 1000000 in
theorem put_bad {w : World} {base p : Nat} {ok : Nat → Prop} {L : List ByteArray} (_h : Tbl w base ok p L) (s : ByteArray) (hg : goodB s = false) :
    Calls Try.prog 17 #[.pointer (some ⟨p, 0, none⟩), .string s] w fun e w' => ∃ ev, e = .returned (.tuple #[.int .i64 0, ev]) ∧ IsErr w' (fun k => w.heap.size ≤ k) ev [(30, -1, s)] ∧ Below w.heap.size w w' := by
  have HG := Lib.hid hg
  go_enter Try.func17, Try.ntmps17
  clear hg
  go_wp2_with (go_at_call 23; refine (good_calls s _).mono ?_; rw [HG.out]; rintro e w' ⟨rfl, ⟨n, rfl⟩⟩)
  go_ret2
  exact ⟨_, rfl, isErr_made (below_drawn w n) _ _ _, (below_drawn w n).alloc (by simp) _⟩

theorem put_nil (s : ByteArray) (w : World) :
    Calls Try.prog 17 #[.pointer none, .string s] w fun e w' => ∃ ev, e = .returned (.tuple #[.int .i64 0, ev]) ∧ IsErr w' (fun k => w.heap.size ≤ k) ev [(1, -1, ⟨#[]⟩)] ∧ Below w.heap.size w w' := by
  go_enter Try.func17, Try.ntmps17
  go_wp2
  go_ret2
  exact ⟨_, rfl, isErr_made (Below.refl _ w) _ _ _, (Below.refl _ w).alloc (Nat.le_refl _) _⟩

set_option maxRecDepth 100000 in
set_option maxHeartbeats 1000000 in
theorem put_there {w : World} {base p : Nat} {ok : Nat → Prop} {L : List ByteArray} (h : Tbl w base ok p L) (s : ByteArray) (hg : goodB s = true) (i : Nat) (hi : idx s L = some i) :
    Calls Try.prog 17 #[.pointer (some ⟨p, 0, none⟩), .string s] w fun e w' => e = .returned (.tuple #[.int .i64 (i : Int), .nilIface]) ∧ Drawn0 w w' := by
  obtain ⟨A, c, bm, c0, c1, hb, hl, hc, f0⟩ := h.cells
  have HG := Lib.hid hg
  have HI := Lib.hid hi
  clear hg hi
  go_enter Try.func17, Try.ntmps17
  go_wp2_with (first | (go_at_call 23; refine (good_calls s _).mono ?_; rw [HG.out]; rintro e w' ⟨rfl, ⟨n, rfl⟩⟩) | (at_lookup; refine wp_look rfl _ _ rfl bm s L rfl rfl hb ?_; rw [HI.out]; simp only [Option.getD_some, Option.isSome_some]))
  go_ret2
  exact ⟨rfl, ⟨n, rfl⟩⟩

set_option maxRecDepth 100000 in
set_option maxHeartbeats 1000000 in
theorem put_full {w : World} {base p : Nat} {ok : Nat → Prop} {L : List ByteArray} (h : Tbl w base ok p L) (s : ByteArray) (hg : goodB s = true) (hi : idx s L = none) (hf : L.length = 1024) :
    Calls Try.prog 17 #[.pointer (some ⟨p, 0, none⟩), .string s] w fun e w' => ∃ ev, e = .returned (.tuple #[.int .i64 0, ev]) ∧ IsErr w' (fun k => w.heap.size ≤ k) ev [(31, -1, s)] ∧ Below w.heap.size w w' := by
  obtain ⟨A, c, bm, c0, c1, hb, hl, hc, f0⟩ := h.cells
  have HG := Lib.hid hg
  have HI := Lib.hid hi
  have HF := Lib.hid hf
  have hfb : ((L.length : Int) == 1024) = true := by simp [hf]
  clear hg hi hf
  go_enter Try.func17, Try.ntmps17
  go_wp2_with (first | (go_at_call 23; refine (good_calls s _).mono ?_; rw [HG.out]; rintro e w' ⟨rfl, ⟨n, rfl⟩⟩) | (at_lookup; refine wp_look rfl _ _ rfl bm s L rfl rfl hb ?_; rw [HI.out]; simp only [Option.getD_none, Option.isSome_none]))
  go_ret2
  exact ⟨_, rfl, isErr_made (below_drawn w n) _ _ _, (below_drawn w n).alloc (by simp) _⟩

theorem own_not_map {α : Type} {d : Kd α} {e base b : Nat} {w : World} {ok : Nat → Prop} {v : Value} {xs : List α} {es : Array MapEntry} {k : Nat} (h : d.R e w base ok v xs) (hb : w.heap[b]? = some (.map es k)) : some b ≠ v.ownBlock := by
  intro he
  obtain ⟨inner, ho⟩ := Kd.R_own h
  obtain ⟨cells, hc⟩ := own_typed ho b he.symm
  rw [hb] at hc
  cases hc

theorem R_notmap {α : Type} {d : Kd α} {e base b : Nat} {w : World} {ok : Nat → Prop} {v : Value} {xs : List α} {es : Array MapEntry} {k : Nat} (h : d.R e w base ok v xs) (hb : w.heap[b]? = some (.map es k)) : d.R e w base (fun k => ok k ∧ k ≠ b) v xs :=
  Kd.R_mono (Kd.R_bound h) (fun j hj => ⟨hj.1, fun e => by
    obtain ⟨_, _, _, q, _, cells, hc⟩ := hj
    rw [e, hb] at hc
    cases hc⟩)

theorem set_same {w : World} {b : Nat} {o : Obj} (h : w.heap[b]? = some o) (o' : Obj) : (ChangeMaps.setBlock w b o').heap[b]? = some o' := by
  simp only [ChangeMaps.setBlock]
  rw [Array.getElem?_setIfInBounds_self_of_lt (blk_lt h)]
theorem set_other (w : World) {b k : Nat} (o' : Obj) (h : k ≠ b) : (ChangeMaps.setBlock w b o').heap[k]? = w.heap[k]? := by
  simp only [ChangeMaps.setBlock]
  rw [Array.getElem?_setIfInBounds_ne (Ne.symm h)]
theorem set_size (w : World) (b : Nat) (o' : Obj) : (ChangeMaps.setBlock w b o').heap.size = w.heap.size := by simp [ChangeMaps.setBlock]

/-- What Put leaves of a new name: the list has grown, the field and the map have been written. -/
theorem put_end {w0 w w1 : World} {p bm n : Nat} {ok : Nat → Prop} {L : List ByteArray} {s : ByteArray} {v v1 : Value} (h4 : w0.heap.size ≤ p) (h5 : w0.heap.size ≤ bm) (h6 : ok p) (h7 : ok bm) (hv : ∀ k, v.ownBlock = some k → ok k)
    (hne : bm ≠ p) (HS : Kd.string.R 9 w1 w0.heap.size (fun k => ok k ∨ w.heap.size ≤ k) v1 (L ++ [s])) (HB1 : Below w0.heap.size w0 w1) (HG : (w.drewN n).grownBy w1 v.ownBlock)
    (HP1 : w1.heap[p]? = some (.cells #[v, .map (some bm)] 92 (0, 0))) (HM1 : w1.heap[bm]? = some (.map (ents 0 L).toArray L.length)) :
    Tbl (ChangeMaps.setBlock (w1.setCell ⟨p, 0, none⟩ v1) bm (.map (ents 0 (L ++ [s])).toArray (L.length + 1))) w0.heap.size (fun k => ok k ∨ w.heap.size ≤ k) p (L ++ [s]) ∧
    Below w0.heap.size w0 (ChangeMaps.setBlock (w1.setCell ⟨p, 0, none⟩ v1) bm (.map (ents 0 (L ++ [s])).toArray (L.length + 1))) ∧
    Kept w (ChangeMaps.setBlock (w1.setCell ⟨p, 0, none⟩ v1) bm (.map (ents 0 (L ++ [s])).toArray (L.length + 1))) ok := by
  have hm2 : (w1.setCell ⟨p, 0, none⟩ v1).heap[bm]? = some (.map (ents 0 L).toArray L.length) := by rw [Below.heap_setCell _ _ _ _ hne]; exact HM1
  have hb2 : Below w0.heap.size w0 (w1.setCell ⟨p, 0, none⟩ v1) := HB1.setCell h4 _
  refine ⟨⟨v1, bm, ?_, ?_, ?_, h4, h5, .inl h6, .inl h7⟩, ?_, ?_⟩
  · rw [set_other _ _ (Ne.symm hne)]
    exact blk_put HP1 0 v1 rfl
  · rw [set_same hm2]; simp
  · have hr := R_notmap (Kd.R_set (g := p) HS HP1 (by decide) 0 v1) hm2
    exact Kd.R_mono (Kd.R_step hr (fun k hk _ => set_other _ _ hk.2)) (fun _ hk => hk.1)
  · refine hb2.trans ⟨rfl, rfl, rfl, by rw [set_size]; exact Nat.le_refl _, fun k hk => set_other _ _ (by omega)⟩
  · refine ⟨by rw [set_size]; simp [World.setCell]; exact HG.size, fun k hk hn => ?_⟩
    rw [set_other _ _ (fun e : k = bm => hn (by rw [e]; exact h7)), Below.heap_setCell _ _ _ _ (fun e : k = p => hn (by rw [e]; exact h6))]
    exact HG.block k hk (fun e => hn (hv k e.symm))

theorem info9 : (Try.prog.info? 9).map (fun i => (i.zero, i.size, i.bytes)) = some (some (.string ⟨#[]⟩), 1, 16) := by kernel_rfl

set_option maxRecDepth 100000 in
set_option maxHeartbeats 1000000 in
theorem put_new {w0 w : World} {p : Nat} {ok : Nat → Prop} {L : List ByteArray} (hB : Below w0.heap.size w0 w) (h : Tbl w w0.heap.size ok p L) (s : ByteArray) (hg : goodB s = true) (hi : idx s L = none) (hf : L.length < 1024) :
    Calls Try.prog 17 #[.pointer (some ⟨p, 0, none⟩), .string s] w fun e w' => e = .returned (.tuple #[.int .i64 (L.length : Int), .nilIface]) ∧ Tbl w' w0.heap.size (fun k => ok k ∨ w.heap.size ≤ k) p (L ++ [s]) ∧ Below w0.heap.size w0 w' ∧ Kept w w' ok := by
  obtain ⟨v, bm, h1, h2, h3, h4, h5, h6, h7⟩ := h
  have h3' := h3
  obtain ⟨A, c, rfl, hl, hc⟩ := Kd.R_reads h3
  have c0 : w.cell? ⟨p, 0, none⟩ = some (.slice A L.length c) := by simp [World.cell?, h1]
  have c1 : w.cell? ⟨p, 1, none⟩ = some (.map (some bm)) := by simp [World.cell?, h1]
  have HG := Lib.hid hg
  have HI := Lib.hid hi
  have hfb : ((L.length : Int) == 1024) = false := by simp; omega
  clear hg hi
  go_enter Try.func17, Try.ntmps17
  have HL := Aside0.mk hf
  have HO := Aside0.mk h3'.1
  have HR := Aside0.mk (Kd.R_mono h3' (ok' := fun k => ok k ∨ w.heap.size ≤ k) (fun _ h => .inl h))
  have HB := Aside0.mk hB
  have H1 := Aside0.mk h1
  have H2 := Aside0.mk h2
  have hne : Aside0 (bm ≠ p) := ⟨fun e => by rw [e, h1] at h2; cases h2⟩
  clear h3' h3 hc hf hB h1
  go_wp2_with (first | (go_at_call 23; refine (good_calls s _).mono ?_; rw [HG.out]; rintro e w' ⟨rfl, ⟨n, rfl⟩⟩) | (at_lookup; refine wp_look rfl _ _ rfl bm s L rfl rfl h2 ?_; rw [HI.out]; simp only [Option.getD_none, Option.isSome_none]; clear h2 HG) | (at_builtin; go_must (refine Kd.R_append Kd.string (w0 := w0) (W := w.drewN n) w0.heap.size rfl (.tmp 47) (.tmp 49) 25 9 (.string ⟨#[]⟩) 16 rfl Try.underlying25 info9 rfl (by decide) (by decide) (.slice A L.length c) L s [.string s] (fun k => ok k ∨ w.heap.size ≤ k) (fun _ => False) rfl rfl rfl (fun _ h => h.elim) (fun _ h => .inr h) (Kd.R_drewN HR.out n) (pw_below_drewN HB.out n) HB.out.size (by have := HL.out; omega) ?_); go_must (intro v1 w1 hR hB1 hg hat; obtain ⟨A1, cc, rfl⟩ := Kd.R_slice hR; have HS := Aside0.mk hR; have HB1 := Aside0.mk hB1; have HGr := Aside0.mk hg; have HAt := Aside0.mk hat; have hp1 := (hg.block p (blk_lt H1.out) (Kd.R_ne HR.out H1.out (by decide))).trans H1.out; have hb1 := (hg.block bm (blk_lt H2.out) (own_not_map HR.out H2.out)).trans H2.out; have c0 : w1.cell? ⟨p, 0, none⟩ = some (.slice A L.length c) := (by simp [World.cell?, hp1]); have c1 : w1.cell? ⟨p, 1, none⟩ = some (.map (some bm)) := (by simp [World.cell?, hp1]); have f0 : w1.frozen? ⟨p, 0, none⟩ = false := (by simp [World.frozen?, hp1]); have HP1 := Aside0.mk hp1; have HM1 := Aside0.mk hb1; clear hR hB1 hg hat hp1 hb1)) | (at_mapUpdate; go_must (refine wp_store rfl (.tmp 56) (.tmp 57) (.tmp 58) rfl bm s L rfl rfl rfl (by rw [Below.heap_setCell _ _ _ _ hne.out]; exact HM1.out) (idx_none.1 HI.out) ?_)))
  go_ret2
  exact ⟨rfl, put_end h4 h5 h6 h7 HO.out hne.out (by simpa using HS.out) HB1.out HGr.out HP1.out HM1.out⟩

/-- Put, all its ways together. -/
theorem put_calls {w0 w : World} {p : Nat} {ok : Nat → Prop} {L : List ByteArray} (hB : Below w0.heap.size w0 w) (h : Tbl w w0.heap.size ok p L) (hl : L.length ≤ 1024) (s : ByteArray) :
    Calls Try.prog 17 #[.pointer (some ⟨p, 0, none⟩), .string s] w fun e w' => ∃ ev, e = .returned (.tuple #[.int .i64 (putN L s : Int), ev]) ∧ IsErr w' (fun k => w.heap.size ≤ k) ev (putE L s) ∧
      Tbl w' w0.heap.size (fun k => ok k ∨ w.heap.size ≤ k) p (putL L s) ∧ Below w0.heap.size w0 w' ∧ Kept w w' ok := by
  have hT : ∀ {w'}, Below w.heap.size w w' → Tbl w' w0.heap.size (fun k => ok k ∨ w.heap.size ≤ k) p L := fun hb => (h.below hb).mono (fun _ hk => .inl hk)
  cases hg : goodB s with
  | false =>
    refine (put_bad h s hg).mono ?_
    rintro e w' ⟨ev, rfl, he, hb⟩
    refine ⟨ev, by simp [putN, hg], by simpa [putE, hg] using he, ?_, below_then hB hB.size hb, Kept.of_below hb _⟩
    have : putL L s = L := by simp [putL, hg]
    rw [this]; exact hT hb
  | true =>
    cases hi : idx s L with
    | some i =>
      refine (put_there h s hg i hi).mono ?_
      rintro e w' ⟨rfl, hd⟩
      refine ⟨.nilIface, by simp [putN, hg, hi], by simp [putE, hg, hi, IsErr], ?_, below_then hB hB.size hd.below, Kept.of_below hd.below _⟩
      have : putL L s = L := by simp [putL, hi]
      rw [this]; exact hT hd.below
    | none =>
      by_cases hf : L.length = 1024
      · refine (put_full h s hg hi hf).mono ?_
        rintro e w' ⟨ev, rfl, he, hb⟩
        refine ⟨ev, by simp [putN, hg, hi, hf], by simpa [putE, hg, hi, hf] using he, ?_, below_then hB hB.size hb, Kept.of_below hb _⟩
        have : putL L s = L := by simp [putL, hf]
        rw [this]; exact hT hb
      · refine (put_new hB h s hg hi (by omega)).mono ?_
        rintro e w' ⟨rfl, ht, hb, hk⟩
        refine ⟨.nilIface, by simp [putN, hg, hi, hf], by simp [putE, hg, hi, hf, IsErr], ?_, hb, hk⟩
        have : putL L s = L ++ [s] := by simp [putL, hg, hi, hf]
        rw [this]; exact ht

end Go.Proofs.Ytgcjfobmccoibaa.Nm
