/- NamesStay: numbers never change; unlike names have unlike numbers. What is asked: how the list of names is read. -/
import Derived.Test.YtgcjfobmccoibaaNm7
set_option linter.unusedSimpArgs false
set_option linter.unusedVariables false
namespace Go.Proofs.Ytgcjfobmccoibaa.Nm
open Go.RowKit Go.Proofs.YtgcjfobmccoibaaW.PrintWords Go.Proofs.YtgcjfobmccoibaaW.PrintLast Go.Proofs.YtgcjfobmccoibaaW.PrintMore

theorem idx_append {s : ByteArray} {i : Nat} (r : List ByteArray) : ∀ {L : List ByteArray} {i : Nat}, idx s L = some i → idx s (L ++ r) = some i
  | [], i, h => by simp [idx] at h
  | x :: L, i, h => by
    simp only [List.cons_append, idx] at h ⊢
    split
    · rename_i hx; rw [if_pos hx] at h; exact h
    · rename_i hx
      rw [if_neg hx] at h
      cases hj : idx s L with
      | none => rw [hj] at h; cases h
      | some j => rw [hj] at h; rw [idx_append (i := i) r hj]; exact h

theorem putL_cases (L : List ByteArray) (s : ByteArray) : putL L s = L ∨ (putL L s = L ++ [s] ∧ goodB s = true ∧ idx s L = none) := by
  unfold putL
  split
  · rename_i h; exact .inr ⟨rfl, h.1, h.2.1⟩
  · exact .inl rfl
theorem putL_len (L : List ByteArray) (s : ByteArray) : (putL L s).length ≤ L.length + 1 := by
  rcases putL_cases L s with h | ⟨h, _⟩ <;> rw [h] <;> simp

/-- All are names; a, if it is one, has the number 0. -/
structure Stay (a : ByteArray) (L : List ByteArray) : Prop where
  good : ∀ s ∈ L, goodB s = true
  at_ : goodB a = true → idx a L = some 0
theorem Stay.put {a : ByteArray} {L : List ByteArray} (h : Stay a L) (s : ByteArray) : Stay a (putL L s) := by
  rcases putL_cases L s with e | ⟨e, hg, _⟩ <;> rw [e]
  · exact h
  · refine ⟨fun x hx => ?_, fun ha => idx_append (i := 0) _ (h.at_ ha)⟩
    rcases List.mem_append.1 hx with hx | hx
    · exact h.good x hx
    · rw [List.mem_singleton.1 hx]; exact hg
theorem Stay.one (a : ByteArray) : Stay a (putL [] a) := by
  unfold putL
  split
  · rename_i h
    exact ⟨fun s hs => by simp at hs; rw [hs]; exact h.1, fun _ => by simp [idx]⟩
  · rename_i h
    exact ⟨fun s hs => by simp at hs, fun ha => absurd ⟨ha, rfl, by simp⟩ h⟩
theorem Stay.none {a : ByteArray} {L : List ByteArray} (h : Stay a L) (ha : goodB a = false) : idx a L = Option.none :=
  idx_none.2 fun hm => by have := h.good a hm; rw [ha] at this; cases this

theorem name_any {w : World} {base p : Nat} {ok : Nat → Prop} {L : List ByteArray} (h : Tbl w base ok p L) (n : Nat) :
    Calls Try.prog 21 #[.pointer (some ⟨p, 0, none⟩), .int .i64 (n : Int)] w fun e w' => ∃ t b, e = .returned (.tuple #[.string t, .bool b]) ∧ w = w' := by
  by_cases hn : n < L.length
  · exact (name_in h n hn).mono fun e w' ⟨h1, h2⟩ => ⟨_, _, h1, h2⟩
  · exact (name_out h (n : Int) (.inr (by omega))).mono fun e w' ⟨h1, h2⟩ => ⟨_, _, h1, h2⟩

/-- A name put in, and then asked for by its number. -/
theorem put_good {w0 w : World} {p : Nat} {ok : Nat → Prop} {L : List ByteArray} (hB : Below w0.heap.size w0 w) (h : Tbl w w0.heap.size ok p L) (s : ByteArray) (hg : goodB s = true) (hf : L.length < 1024) :
    Calls Try.prog 17 #[.pointer (some ⟨p, 0, none⟩), .string s] w fun e w' => ∃ n : Nat, e = .returned (.tuple #[.int .i64 (n : Int), .nilIface]) ∧ n < (putL L s).length ∧ (putL L s).getD n ByteArray.empty = s ∧ n = putN L s ∧
      Tbl w' w0.heap.size (fun k => ok k ∨ w.heap.size ≤ k) p (putL L s) ∧ Below w0.heap.size w0 w' ∧ Kept w w' ok := by
  refine (put_calls hB h (by omega) s).mono ?_
  rintro e w' ⟨ev, rfl, he, ht, hb, hk⟩
  have he0 : putE L s = [] := by unfold putE; rw [if_pos hg, if_neg (by omega)]
  rw [he0] at he
  have : ev = .nilIface := he
  subst this
  have hne : L.length ≠ 1024 := by omega
  have key : putN L s < (putL L s).length ∧ (putL L s).getD (putN L s) ByteArray.empty = s := by
    cases hi : idx s L with
    | none =>
      have e1 : putL L s = L ++ [s] := by simp [putL, hg, hi, hne]
      have e2 : putN L s = L.length := by simp [putN, hg, hi, hne]
      rw [e1, e2]; simp
    | some i =>
      have e1 : putL L s = L := by simp [putL, hi]
      have e2 : putN L s = i := by simp [putN, hg, hi]
      rw [e1, e2]
      exact ⟨(idx_lt hi).1, by have := (idx_lt hi).2; simp [this]⟩
  exact ⟨putN L s, rfl, key.1, key.2, rfl, ht, hb, hk⟩

theorem isErr_iface {w : World} {ok : Nat → Prop} {ev : Value} {x : Int × Int × ByteArray} {r : List (Int × Int × ByteArray)} (h : IsErr w ok ev (x :: r)) : ∃ b, ev = .iface 93 (.pointer (some ⟨b, 0, none⟩)) := by
  obtain ⟨c, a, n⟩ := x
  obtain ⟨b, cv, h1, _⟩ := h
  exact ⟨b, h1⟩

theorem Tbl.lower {w : World} {base base' p : Nat} {ok : Nat → Prop} {L : List ByteArray} (h : Tbl w base ok p L) (hb : base' ≤ base) : Tbl w base' ok p L := by
  obtain ⟨v, bm, h1, h2, h3, h4, h5, h6, h7⟩ := h
  exact ⟨v, bm, h1, h2, Kd.R_lower h3 hb, Nat.le_trans hb h4, Nat.le_trans hb h5, h6, h7⟩

/-- What a round has: a table of names, a's number among them; so many at most. -/
def StayAt (w0 : World) (a : ByteArray) (p m : Nat) (w : World) : Prop := Below w0.heap.size w0 w ∧ ∃ ok L, Tbl w w0.heap.size ok p L ∧ Stay a L ∧ L.length ≤ m

theorem stay_good {w0 w : World} {a : ByteArray} {p m : Nat} (h : StayAt w0 a p m w) (hm : m < 1024) (s : ByteArray) (hg : goodB s = true) :
    Calls Try.prog 17 #[.pointer (some ⟨p, 0, none⟩), .string s] w fun e w' => ∃ n : Nat, e = .returned (.tuple #[.int .i64 (n : Int), .nilIface]) ∧ StayAt w0 a p (m + 1) w' ∧
      Calls Try.prog 21 #[.pointer (some ⟨p, 0, none⟩), .int .i64 (n : Int)] w' (fun e w'' => e = .returned (.tuple #[.string s, .bool true]) ∧ w' = w'') := by
  obtain ⟨hB, ok, L, hT, hS, hl⟩ := h
  refine (put_good hB hT s hg (by omega)).mono ?_
  rintro e w' ⟨n, rfl, h1, h2, _, ht, hb, _⟩
  refine ⟨n, rfl, ⟨hb, _, _, ht, hS.put s, Nat.le_trans (putL_len L s) (by omega)⟩, ?_⟩
  have := name_in ht n h1
  rwa [h2] at this
theorem stay_bad {w0 w : World} {a : ByteArray} {p m : Nat} (h : StayAt w0 a p m w) (s : ByteArray) (hg : goodB s = false) :
    Calls Try.prog 17 #[.pointer (some ⟨p, 0, none⟩), .string s] w fun e w' => ∃ b, e = .returned (.tuple #[.int .i64 0, .iface 93 (.pointer (some ⟨b, 0, none⟩))]) ∧ StayAt w0 a p m w' ∧
      Calls Try.prog 21 #[.pointer (some ⟨p, 0, none⟩), .int .i64 0] w' (fun e w'' => ∃ t q, e = .returned (.tuple #[.string t, .bool q]) ∧ w' = w'') := by
  obtain ⟨hB, ok, L, hT, hS, hl⟩ := h
  refine (put_bad hT s hg).mono ?_
  rintro e w' ⟨ev, rfl, he, hb⟩
  obtain ⟨b, rfl⟩ := isErr_iface he
  exact ⟨b, rfl, ⟨below_then hB hB.size hb, ok, L, hT.below hb, hS, hl⟩, name_any (hT.below hb) 0⟩
theorem stay_find {w0 w : World} {a : ByteArray} {p m : Nat} (h : StayAt w0 a p m w) :
    Calls Try.prog 22 #[.pointer (some ⟨p, 0, none⟩), .string a] w fun e w' => e = .returned (.tuple #[.int .i64 0, .bool (goodB a)]) ∧ w = w' := by
  obtain ⟨hB, ok, L, hT, hS, hl⟩ := h
  refine (find_calls hT a).mono ?_
  rintro e w' ⟨rfl, rfl⟩
  cases hg : goodB a with
  | true => rw [hS.at_ hg]; exact ⟨rfl, rfl⟩
  | false => rw [hS.none hg]; exact ⟨rfl, rfl⟩
theorem stay_again {w0 w : World} {a : ByteArray} {p m : Nat} (h : StayAt w0 a p m w) (hg : goodB a = true) :
    Calls Try.prog 17 #[.pointer (some ⟨p, 0, none⟩), .string a] w fun e w' => e = .returned (.tuple #[.int .i64 0, .nilIface]) ∧ StayAt w0 a p m w' := by
  obtain ⟨hB, ok, L, hT, hS, hl⟩ := h
  refine (put_there hT a hg 0 (hS.at_ hg)).mono ?_
  rintro e w' ⟨rfl, hd⟩
  exact ⟨rfl, ⟨below_then hB hB.size hd.below, ok, L, hT.drawn hd, hS, hl⟩⟩

/-- The first two. -/
theorem stay_one {w0 w : World} {p : Nat} {ok : Nat → Prop} (a : ByteArray) (hB : Below w0.heap.size w0 w) (hT : Tbl w w0.heap.size ok p []) (hg : goodB a = true) :
    Calls Try.prog 17 #[.pointer (some ⟨p, 0, none⟩), .string a] w fun e w' => e = .returned (.tuple #[.int .i64 0, .nilIface]) ∧ Below w0.heap.size w0 w' ∧ ∃ ok, Tbl w' w0.heap.size ok p [a] := by
  refine (put_new hB hT a hg rfl (by simp)).mono ?_
  rintro e w' ⟨rfl, ht, hb, _⟩
  exact ⟨rfl, hb, _, ht⟩
theorem stay_two {w0 w : World} {p : Nat} {ok : Nat → Prop} (a b : ByteArray) (hB : Below w0.heap.size w0 w) (hT : Tbl w w0.heap.size ok p [a]) (ha : goodB a = true) (hb : goodB b = true) (hne : a ≠ b) :
    Calls Try.prog 17 #[.pointer (some ⟨p, 0, none⟩), .string b] w fun e w' => e = .returned (.tuple #[.int .i64 1, .nilIface]) ∧ StayAt w0 a p 2 w' := by
  refine (put_new hB hT b hb (by simp [idx, hne]) (by simp)).mono ?_
  rintro e w' ⟨rfl, ht, hb', _⟩
  exact ⟨rfl, hb', _, _, ht, ⟨fun s hs => by simp at hs; rcases hs with rfl | rfl <;> assumption, fun _ => by simp [idx]⟩, by simp⟩
theorem stay_fst {w0 w : World} {p : Nat} {ok : Nat → Prop} {a : ByteArray} (hB : Below w0.heap.size w0 w) (hT : Tbl w w0.heap.size ok p [a]) (ha : goodB a = true) : StayAt w0 a p 2 w :=
  ⟨hB, ok, _, hT, ⟨fun s hs => by simp at hs; rw [hs]; exact ha, fun _ => by simp [idx]⟩, by simp⟩
theorem stay_nil {w0 w : World} {p : Nat} {ok : Nat → Prop} {a : ByteArray} (hB : Below w0.heap.size w0 w) (hT : Tbl w w0.heap.size ok p []) (ha : goodB a = false) : StayAt w0 a p 1 w :=
  ⟨hB, ok, _, hT, ⟨fun s hs => by simp at hs, fun h => by rw [ha] at h; cases h⟩, by simp⟩
theorem StayAt.mono {w0 w : World} {p m m' : Nat} {a : ByteArray} (h : StayAt w0 a p m w) (hm : m ≤ m') : StayAt w0 a p m' w := by
  obtain ⟨hB, ok, L, hT, hS, hl⟩ := h
  exact ⟨hB, ok, L, hT, hS, Nat.le_trans hl hm⟩

set_option maxRecDepth 100000 in
set_option maxHeartbeats 2000000 in
theorem stay_calls (w : World) (a b : ByteArray) (A : Option Addr) (c : Nat) (list : List ByteArray) (hc : Kd.C Kd.string w A list.length list) (hl : list.length ≤ 9223372036854775807) :
    Calls Try.prog 4 #[.string a, .string b, .slice A list.length c] w fun e w' => e = .returned (.bool true) ∧ Below w.heap.size w w' := by
  by_cases h9 : list.length ≤ 900
  · have h9b : decide (900 < list.length) = false := by simp; omega
    have h9c : decide (900 < (list.length : Int)) = false := by simp; omega
    have HC := Aside0.mk hc
    have HL := Aside0.mk h9
    clear hc
    go_enter Try.func4, Try.ntmps4
    go_wp2_with fail
    refine (lives_calls _).mono ?_
    rintro e w1 ⟨rfl, hB1⟩
    go_wp2_with fail
    refine (new_calls _).mono ?_
    rintro e w2 ⟨p, rfl, hT0, hB0⟩
    have hB := below_then hB1 hB1.size hB0
    have hT := Tbl.lower hT0 hB1.size
    clear hB1 hB0 hT0
    go_wp2_with fail
    cases ga : goodB a with
    | true =>
      refine (stay_one a hB hT ga).mono ?_
      rintro e w3 ⟨rfl, hB3, ok3, hT3⟩
      clear hT hB
      go_wp2_with fail
      cases gb : goodB b with
      | true =>
        by_cases hab : a = b
        · subst hab
          refine (stay_again (stay_fst hB3 hT3 ga) ga).mono ?_
          rintro e w4 ⟨rfl, hSt⟩
          clear hB3 hT3
          have e1 : (a.toList == a.toList) = true := by simp
          go_wp2_with fail
          have HS := Aside0.mk (hSt.mono (show _ ≤ 2 by omega))
          clear hSt
          go_loopw [59] (fun i wr => ∃ k : Nat, k ≤ list.length ∧ i = .int .i64 (k : Int) ∧ Aside0 (StayAt w a p (2 + k) wr)) (fun i _ => list.length - (intOf i).toNat)
          case atStart => exact ⟨0, Nat.zero_le _, rfl, ⟨HS.out⟩⟩
          case round =>
            clear HS
            obtain ⟨k, hk, rfl, HSt⟩ := hrel
            by_cases hlt : k < list.length
            · obtain ⟨ad, cc, rfl, hcl, hK, hcc⟩ := Kd.C_get (Kd.C_below HC.out HSt.out.1) ByteArray.empty (k : Int) (by omega) (by omega)
              have hK' : cc = [.string (list.getD k ByteArray.empty)] := hK
              subst hK'
              have hx : wr.cell? (ad.add k) = some (.string (list.getD k ByteArray.empty)) := by
                have := hcc 0 _ rfl
                simpa [Kd.string, Kd.scalar] using this
              clear hK hcl hcc
              generalize list.getD k ByteArray.empty = t at hx
              cases gt : goodB t with
              | true =>
                have e2 : (t.toList == t.toList) = true := by simp
                have HG := Aside0.mk gt
                clear gt
                go_wp2_with fail
                refine (stay_good HSt.out (by have := HL.out; omega) t HG.out).mono ?_
                rintro e w5 ⟨n, rfl, hS5, hN5⟩
                have HS5 := Aside0.mk hS5
                have HN5 := Aside0.mk hN5
                clear hS5 hN5
                go_wp2_with fail
                refine (HN5.out).mono ?_
                rintro e w6 ⟨rfl, rfl⟩
                clear HN5
                go_wp2_with fail
                go_roundw
                case rel => exact ⟨k + 1, by omega, by go_num, ⟨HS5.out.mono (by omega)⟩⟩
                case measure => simp [intOf]; omega
              | false =>
                have HG := Aside0.mk gt
                clear gt
                go_wp2_with fail
                refine (stay_bad HSt.out t HG.out).mono ?_
                rintro e w5 ⟨bb, rfl, hS5, hN5⟩
                have HS5 := Aside0.mk hS5
                have HN5 := Aside0.mk hN5
                clear hS5 hN5
                go_wp2_with fail
                refine (HN5.out).mono ?_
                rintro e w6 ⟨tt, q, rfl, rfl⟩
                clear HN5
                go_wp2_with fail
                go_roundw
                case rel => exact ⟨k + 1, by omega, by go_num, ⟨HS5.out.mono (by omega)⟩⟩
                case measure => simp [intOf]; omega
            · go_wp2_with fail
              refine (stay_again HSt.out ga).mono ?_
              rintro e w5 ⟨rfl, hS5⟩
              have HS5 := Aside0.mk hS5
              clear hS5
              go_wp2_with fail
              refine (stay_find HS5.out).mono ?_
              rw [ga]
              rintro e w6 ⟨rfl, rfl⟩
              go_wp2_with fail
              go_ret
              exact ⟨rfl, HS5.out.1⟩
        · refine (stay_two a b hB3 hT3 ga gb hab).mono ?_
          rintro e w4 ⟨rfl, hSt⟩
          have e1 := bytes_ne hab
          clear hB3 hT3 hab
          go_wp2_with fail
          have HS := Aside0.mk (hSt.mono (show _ ≤ 2 by omega))
          clear hSt
          go_loopw [59] (fun i wr => ∃ k : Nat, k ≤ list.length ∧ i = .int .i64 (k : Int) ∧ Aside0 (StayAt w a p (2 + k) wr)) (fun i _ => list.length - (intOf i).toNat)
          case atStart => exact ⟨0, Nat.zero_le _, rfl, ⟨HS.out⟩⟩
          case round =>
            clear HS
            obtain ⟨k, hk, rfl, HSt⟩ := hrel
            by_cases hlt : k < list.length
            · obtain ⟨ad, cc, rfl, hcl, hK, hcc⟩ := Kd.C_get (Kd.C_below HC.out HSt.out.1) ByteArray.empty (k : Int) (by omega) (by omega)
              have hK' : cc = [.string (list.getD k ByteArray.empty)] := hK
              subst hK'
              have hx : wr.cell? (ad.add k) = some (.string (list.getD k ByteArray.empty)) := by
                have := hcc 0 _ rfl
                simpa [Kd.string, Kd.scalar] using this
              clear hK hcl hcc
              generalize list.getD k ByteArray.empty = t at hx
              cases gt : goodB t with
              | true =>
                have e2 : (t.toList == t.toList) = true := by simp
                have HG := Aside0.mk gt
                clear gt
                go_wp2_with fail
                refine (stay_good HSt.out (by have := HL.out; omega) t HG.out).mono ?_
                rintro e w5 ⟨n, rfl, hS5, hN5⟩
                have HS5 := Aside0.mk hS5
                have HN5 := Aside0.mk hN5
                clear hS5 hN5
                go_wp2_with fail
                refine (HN5.out).mono ?_
                rintro e w6 ⟨rfl, rfl⟩
                clear HN5
                go_wp2_with fail
                go_roundw
                case rel => exact ⟨k + 1, by omega, by go_num, ⟨HS5.out.mono (by omega)⟩⟩
                case measure => simp [intOf]; omega
              | false =>
                have HG := Aside0.mk gt
                clear gt
                go_wp2_with fail
                refine (stay_bad HSt.out t HG.out).mono ?_
                rintro e w5 ⟨bb, rfl, hS5, hN5⟩
                have HS5 := Aside0.mk hS5
                have HN5 := Aside0.mk hN5
                clear hS5 hN5
                go_wp2_with fail
                refine (HN5.out).mono ?_
                rintro e w6 ⟨tt, q, rfl, rfl⟩
                clear HN5
                go_wp2_with fail
                go_roundw
                case rel => exact ⟨k + 1, by omega, by go_num, ⟨HS5.out.mono (by omega)⟩⟩
                case measure => simp [intOf]; omega
            · go_wp2_with fail
              refine (stay_again HSt.out ga).mono ?_
              rintro e w5 ⟨rfl, hS5⟩
              have HS5 := Aside0.mk hS5
              clear hS5
              go_wp2_with fail
              refine (stay_find HS5.out).mono ?_
              rw [ga]
              rintro e w6 ⟨rfl, rfl⟩
              go_wp2_with fail
              go_ret
              exact ⟨rfl, HS5.out.1⟩
      | false =>
        refine (stay_bad (stay_fst hB3 hT3 ga) b gb).mono ?_
        rintro e w4 ⟨bb, rfl, hSt, _⟩
        clear hB3 hT3
        go_wp2_with fail
        have HS := Aside0.mk (hSt.mono (show _ ≤ 2 by omega))
        clear hSt
        go_loopw [59] (fun i wr => ∃ k : Nat, k ≤ list.length ∧ i = .int .i64 (k : Int) ∧ Aside0 (StayAt w a p (2 + k) wr)) (fun i _ => list.length - (intOf i).toNat)
        case atStart => exact ⟨0, Nat.zero_le _, rfl, ⟨HS.out⟩⟩
        case round =>
          clear HS
          obtain ⟨k, hk, rfl, HSt⟩ := hrel
          by_cases hlt : k < list.length
          · obtain ⟨ad, cc, rfl, hcl, hK, hcc⟩ := Kd.C_get (Kd.C_below HC.out HSt.out.1) ByteArray.empty (k : Int) (by omega) (by omega)
            have hK' : cc = [.string (list.getD k ByteArray.empty)] := hK
            subst hK'
            have hx : wr.cell? (ad.add k) = some (.string (list.getD k ByteArray.empty)) := by
              have := hcc 0 _ rfl
              simpa [Kd.string, Kd.scalar] using this
            clear hK hcl hcc
            generalize list.getD k ByteArray.empty = t at hx
            cases gt : goodB t with
            | true =>
              have e2 : (t.toList == t.toList) = true := by simp
              have HG := Aside0.mk gt
              clear gt
              go_wp2_with fail
              refine (stay_good HSt.out (by have := HL.out; omega) t HG.out).mono ?_
              rintro e w5 ⟨n, rfl, hS5, hN5⟩
              have HS5 := Aside0.mk hS5
              have HN5 := Aside0.mk hN5
              clear hS5 hN5
              go_wp2_with fail
              refine (HN5.out).mono ?_
              rintro e w6 ⟨rfl, rfl⟩
              clear HN5
              go_wp2_with fail
              go_roundw
              case rel => exact ⟨k + 1, by omega, by go_num, ⟨HS5.out.mono (by omega)⟩⟩
              case measure => simp [intOf]; omega
            | false =>
              have HG := Aside0.mk gt
              clear gt
              go_wp2_with fail
              refine (stay_bad HSt.out t HG.out).mono ?_
              rintro e w5 ⟨bb, rfl, hS5, hN5⟩
              have HS5 := Aside0.mk hS5
              have HN5 := Aside0.mk hN5
              clear hS5 hN5
              go_wp2_with fail
              refine (HN5.out).mono ?_
              rintro e w6 ⟨tt, q, rfl, rfl⟩
              clear HN5
              go_wp2_with fail
              go_roundw
              case rel => exact ⟨k + 1, by omega, by go_num, ⟨HS5.out.mono (by omega)⟩⟩
              case measure => simp [intOf]; omega
          · go_wp2_with fail
            refine (stay_again HSt.out ga).mono ?_
            rintro e w5 ⟨rfl, hS5⟩
            have HS5 := Aside0.mk hS5
            clear hS5
            go_wp2_with fail
            refine (stay_find HS5.out).mono ?_
            rw [ga]
            rintro e w6 ⟨rfl, rfl⟩
            go_wp2_with fail
            go_ret
            exact ⟨rfl, HS5.out.1⟩
    | false =>
      refine (stay_bad (stay_nil hB hT ga) a ga).mono ?_
      rintro e w3 ⟨bb, rfl, hSt3, _⟩
      clear hT hB
      have HS3 := Aside0.mk hSt3
      clear hSt3
      go_wp2_with fail
      cases gb : goodB b with
      | true =>
        refine (stay_good HS3.out (by omega) b gb).mono ?_
        rintro e w4 ⟨y, rfl, hSt, _⟩
        clear HS3
        go_wp2_with fail
        have HS := Aside0.mk (hSt.mono (show _ ≤ 2 by omega))
        clear hSt
        go_loopw [59] (fun i wr => ∃ k : Nat, k ≤ list.length ∧ i = .int .i64 (k : Int) ∧ Aside0 (StayAt w a p (2 + k) wr)) (fun i _ => list.length - (intOf i).toNat)
        case atStart => exact ⟨0, Nat.zero_le _, rfl, ⟨HS.out⟩⟩
        case round =>
          clear HS
          obtain ⟨k, hk, rfl, HSt⟩ := hrel
          by_cases hlt : k < list.length
          · obtain ⟨ad, cc, rfl, hcl, hK, hcc⟩ := Kd.C_get (Kd.C_below HC.out HSt.out.1) ByteArray.empty (k : Int) (by omega) (by omega)
            have hK' : cc = [.string (list.getD k ByteArray.empty)] := hK
            subst hK'
            have hx : wr.cell? (ad.add k) = some (.string (list.getD k ByteArray.empty)) := by
              have := hcc 0 _ rfl
              simpa [Kd.string, Kd.scalar] using this
            clear hK hcl hcc
            generalize list.getD k ByteArray.empty = t at hx
            cases gt : goodB t with
            | true =>
              have e2 : (t.toList == t.toList) = true := by simp
              have HG := Aside0.mk gt
              clear gt
              go_wp2_with fail
              refine (stay_good HSt.out (by have := HL.out; omega) t HG.out).mono ?_
              rintro e w5 ⟨n, rfl, hS5, hN5⟩
              have HS5 := Aside0.mk hS5
              have HN5 := Aside0.mk hN5
              clear hS5 hN5
              go_wp2_with fail
              refine (HN5.out).mono ?_
              rintro e w6 ⟨rfl, rfl⟩
              clear HN5
              go_wp2_with fail
              go_roundw
              case rel => exact ⟨k + 1, by omega, by go_num, ⟨HS5.out.mono (by omega)⟩⟩
              case measure => simp [intOf]; omega
            | false =>
              have HG := Aside0.mk gt
              clear gt
              go_wp2_with fail
              refine (stay_bad HSt.out t HG.out).mono ?_
              rintro e w5 ⟨bb, rfl, hS5, hN5⟩
              have HS5 := Aside0.mk hS5
              have HN5 := Aside0.mk hN5
              clear hS5 hN5
              go_wp2_with fail
              refine (HN5.out).mono ?_
              rintro e w6 ⟨tt, q, rfl, rfl⟩
              clear HN5
              go_wp2_with fail
              go_roundw
              case rel => exact ⟨k + 1, by omega, by go_num, ⟨HS5.out.mono (by omega)⟩⟩
              case measure => simp [intOf]; omega
          · go_wp2_with fail
            refine (stay_find HSt.out).mono ?_
            rw [ga]
            rintro e w6 ⟨rfl, rfl⟩
            go_wp2_with fail
            go_ret
            exact ⟨rfl, HSt.out.1⟩
      | false =>
        refine (stay_bad HS3.out b gb).mono ?_
        rintro e w4 ⟨bb2, rfl, hSt, _⟩
        clear HS3
        go_wp2_with fail
        have HS := Aside0.mk (hSt.mono (show _ ≤ 2 by omega))
        clear hSt
        go_loopw [59] (fun i wr => ∃ k : Nat, k ≤ list.length ∧ i = .int .i64 (k : Int) ∧ Aside0 (StayAt w a p (2 + k) wr)) (fun i _ => list.length - (intOf i).toNat)
        case atStart => exact ⟨0, Nat.zero_le _, rfl, ⟨HS.out⟩⟩
        case round =>
          clear HS
          obtain ⟨k, hk, rfl, HSt⟩ := hrel
          by_cases hlt : k < list.length
          · obtain ⟨ad, cc, rfl, hcl, hK, hcc⟩ := Kd.C_get (Kd.C_below HC.out HSt.out.1) ByteArray.empty (k : Int) (by omega) (by omega)
            have hK' : cc = [.string (list.getD k ByteArray.empty)] := hK
            subst hK'
            have hx : wr.cell? (ad.add k) = some (.string (list.getD k ByteArray.empty)) := by
              have := hcc 0 _ rfl
              simpa [Kd.string, Kd.scalar] using this
            clear hK hcl hcc
            generalize list.getD k ByteArray.empty = t at hx
            cases gt : goodB t with
            | true =>
              have e2 : (t.toList == t.toList) = true := by simp
              have HG := Aside0.mk gt
              clear gt
              go_wp2_with fail
              refine (stay_good HSt.out (by have := HL.out; omega) t HG.out).mono ?_
              rintro e w5 ⟨n, rfl, hS5, hN5⟩
              have HS5 := Aside0.mk hS5
              have HN5 := Aside0.mk hN5
              clear hS5 hN5
              go_wp2_with fail
              refine (HN5.out).mono ?_
              rintro e w6 ⟨rfl, rfl⟩
              clear HN5
              go_wp2_with fail
              go_roundw
              case rel => exact ⟨k + 1, by omega, by go_num, ⟨HS5.out.mono (by omega)⟩⟩
              case measure => simp [intOf]; omega
            | false =>
              have HG := Aside0.mk gt
              clear gt
              go_wp2_with fail
              refine (stay_bad HSt.out t HG.out).mono ?_
              rintro e w5 ⟨bb, rfl, hS5, hN5⟩
              have HS5 := Aside0.mk hS5
              have HN5 := Aside0.mk hN5
              clear hS5 hN5
              go_wp2_with fail
              refine (HN5.out).mono ?_
              rintro e w6 ⟨tt, q, rfl, rfl⟩
              clear HN5
              go_wp2_with fail
              go_roundw
              case rel => exact ⟨k + 1, by omega, by go_num, ⟨HS5.out.mono (by omega)⟩⟩
              case measure => simp [intOf]; omega
          · go_wp2_with fail
            refine (stay_find HSt.out).mono ?_
            rw [ga]
            rintro e w6 ⟨rfl, rfl⟩
            go_wp2_with fail
            go_ret
            exact ⟨rfl, HSt.out.1⟩
  · have h9b : decide (900 < list.length) = true := by simp; omega
    have h9c : decide (900 < (list.length : Int)) = true := by simp; omega
    go_enter Try.func4, Try.ntmps4
    go_wp2_with fail
    refine (lives_calls _).mono ?_
    rintro e w1 ⟨rfl, hB1⟩
    have HB1 := Aside0.mk hB1
    clear hB1
    go_wp2_with fail
    go_ret
    exact ⟨rfl, HB1.out⟩

end Go.Proofs.Ytgcjfobmccoibaa.Nm
