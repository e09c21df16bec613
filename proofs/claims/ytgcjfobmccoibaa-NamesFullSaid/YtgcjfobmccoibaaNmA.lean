/- NamesFull: the table's end: the 1024th name is put in, the next refused. No condition. -/
import Derived.Test.YtgcjfobmccoibaaNm9
set_option linter.unusedSimpArgs false
set_option linter.unusedVariables false
namespace Go.Proofs.Ytgcjfobmccoibaa.Nm
open Go.RowKit Go.Proofs.YtgcjfobmccoibaaW.PrintWords Go.Proofs.YtgcjfobmccoibaaW.PrintLast Go.Proofs.YtgcjfobmccoibaaW.PrintMore

/-- The three letters of name k. -/
def let3 (k : Nat) : List Int := [97 + (k : Int) % 26, 97 + (k : Int) / 26 % 26, 97 + (k : Int) / 676]
def nm (k : Nat) : ByteArray := (⟨#[110]⟩ : ByteArray) ++ strOfNums (let3 k)
def nms (k : Nat) : List ByteArray := (List.range k).map nm

theorem conv3 (W : World) (x0 x1 x2 : Int) : (convert 26 9 (.slice (some ⟨W.heap.size, 0, none⟩) 3 3)).run Try.prog (W.alloc (.cells #[.int .u8 x0, .int .u8 x1, .int .u8 x2] 5)) = .ok (.string (strOfNums [x0, x1, x2])) (W.alloc (.cells #[.int .u8 x0, .int .u8 x1, .int .u8 x2] 5)) := by
  refine run_convert_bytes_arg _ 26 5 Try.underlying26 Try.underlying5 W.heap.size 0 3 3 [x0, x1, x2] rfl ?_ 9 Try.underlying9
  intro i hi
  have hb := blk_cell (blk_last W (.cells #[.int .u8 x0, .int .u8 x1, .int .u8 x2] 5)) i
  rw [Nat.zero_add, hb]
  match i, hi with
  | 0, _ => rfl
  | 1, _ => rfl
  | 2, _ => rfl

/-- The number that a name of this kind tells. -/
def code (s : ByteArray) : Nat := match s.data.toList with
  | [_, a, b, c] => (a.toNat - 97) + 26 * (b.toNat - 97) + 676 * (c.toNat - 97)
  | _ => 0
theorem nm_code : ∀ k, k < 1024 → code (nm k) = k := by decide +kernel
theorem nm_good : ∀ k, k < 1024 → goodB (nm k) = true := by decide +kernel
theorem nm_inj {i j : Nat} (hi : i < 1024) (hj : j < 1024) (h : nm i = nm j) : i = j := by
  rw [← nm_code i hi, ← nm_code j hj, h]
theorem nms_len (k : Nat) : (nms k).length = k := by simp [nms]
theorem nms_idx {k : Nat} (hk : k < 1024) : idx (nm k) (nms k) = none := by
  refine idx_none.2 fun h => ?_
  obtain ⟨j, hj, e⟩ := List.mem_map.1 h
  have hj' : j < k := by simpa using hj
  have := nm_inj (by omega) hk e
  omega
theorem nms_succ (k : Nat) : nms (k + 1) = nms k ++ [nm k] := by simp [nms, List.range_succ]
theorem nms_put {k : Nat} (hk : k < 1024) : putL (nms k) (nm k) = nms (k + 1) ∧ putN (nms k) (nm k) = k ∧ putE (nms k) (nm k) = [] := by
  have h1 := nm_good k hk
  have h2 := nms_idx hk
  have h3 : (nms k).length ≠ 1024 := by rw [nms_len]; omega
  refine ⟨by rw [nms_succ]; simp [putL, h1, h2, h3], ?_, by simp [putE, h1, h2, h3]⟩
  simp [putN, h1, h2, nms_len]; omega
theorem nbaa : nm 1 = ⟨#[110, 98, 97, 97]⟩ := by decide +kernel
theorem nms_nbaa : idx ⟨#[110, 98, 97, 97]⟩ (nms 1024) = some 1 := by
  have h0 : nms 1024 = nm 0 :: nm 1 :: (List.range 1022).map (fun j => nm (j + 2)) := by
    unfold nms
    rw [show (1024 : Nat) = 1022 + 1 + 1 by rfl, List.range_succ_eq_map, List.range_succ_eq_map]
    simp [Function.comp_def]
  rw [h0, nbaa]
  simp only [idx]
  rw [if_neg (by decide +kernel)]
  simp
theorem s3 (x y z : Int) : (strOfNums [x, y, z]).size = 3 := rfl

theorem full_put {w0 w : World} {p : Nat} {v : Value} {M : List ByteArray} {k : Nat} (hk : k < 1024) (h : TVE w0 p v (nms k) M .nilIface [] w) :
    Calls Try.prog 17 #[.pointer (some ⟨p, 0, none⟩), .string (nm k)] w fun e w' => e = .returned (.tuple #[.int .i64 (k : Int), .nilIface]) ∧ TVE w0 p v (nms (k + 1)) M .nilIface [] w' := by
  obtain ⟨h1, h2, h3⟩ := nms_put hk
  refine (tve_put h (by rw [nms_len]; omega) (nm k)).mono ?_
  rw [h1, h2, h3]
  rintro e w' ⟨ev, rfl, ht⟩
  have : ev = .nilIface := ht.2.choose_spec.choose_spec.choose_spec.2.2.2.2.2
  subst this
  exact ⟨rfl, ht⟩

theorem full_same (s : ByteArray) : putL (nms 1024) s = nms 1024 := by
  unfold putL
  rw [if_neg (fun h => h.2.2 (nms_len 1024))]
theorem full_last {w0 w : World} {p : Nat} {v ev : Value} {M : List ByteArray} {E : List (Int × Int × ByteArray)} (h : TVE w0 p v (nms 1024) M ev E w) :
    Calls Try.prog 17 #[.pointer (some ⟨p, 0, none⟩), .string ⟨#[110, 98, 97, 97]⟩] w fun e w' => e = .returned (.tuple #[.int .i64 1, .nilIface]) ∧ Below w0.heap.size w0 w' := by
  obtain ⟨hB, okT, okV, okE, h1, h2, h3, h4, h5, h6⟩ := h
  refine (put_there h4 _ (by rw [← nbaa]; exact nm_good 1 (by decide)) 1 nms_nbaa).mono ?_
  rintro e w' ⟨rfl, hd⟩
  exact ⟨rfl, below_then hB hB.size hd.below⟩

set_option maxRecDepth 100000 in
set_option maxHeartbeats 2000000 in
theorem full_calls (w : World) (more : ByteArray) :
    Calls Try.prog 3 #[.string more] w fun e w' => e = .returned (.bool true) ∧ Below w.heap.size w w' := by
  have hcv := conv3
  have hs3 := s3
  go_enter Try.func3, Try.ntmps3
  go_wp2_with fail
  refine (lives_calls _).mono ?_
  rintro e w1 ⟨rfl, hB1⟩
  go_wp2_with fail
  refine (new_calls _).mono ?_
  rintro e w2 ⟨p, rfl, hT0, hB0⟩
  have hB := below_then hB1 hB1.size hB0
  have hT := Tbl.lower hT0 hB1.size
  clear hB1 hB0 hT0
  have HS := Aside0.mk (tve_start hB hT)
  clear hB hT
  go_wp2_with fail
  go_loopw [4, 5] (fun v i wr => ∃ (k : Nat) (A : Option Addr) (c : Nat), k ≤ 1024 ∧ i = .int .i64 (k : Int) ∧ v = .slice A k c ∧ Aside0 (TVE w p (.slice A k c) (nms k) (nms k) .nilIface [] wr)) (fun _ i _ => 1024 - (intOf i).toNat)
  case atStart => exact ⟨0, _, _, by omega, rfl, rfl, HS⟩
  case round =>
    clear HS
    obtain ⟨k, A, c, hk, rfl, rfl, HT⟩ := hrel
    by_cases hlt : k < 1024
    · go_wp2_with fail
      refine (full_put hlt (HT.out.below (below_alloc (Below.refl _ _) _))).mono ?_
      rintro e w3 ⟨rfl, hT3⟩
      have HT3 := Aside0.mk hT3
      clear HT hT3
      have e1 : ((k : Int) != (k : Int)) = false := by simp
      have HN := Aside0.mk (nms_len k)
      go_wp2_with (at_builtin; go_must (refine wp_app HT3.out (nm k) rfl (.tmp 51) (.tmp 53) rfl rfl rfl (by rw [nms_len]; omega) ?_; intro A1 c1 w4 hT4; rw [nms_len, ← nms_succ] at hT4; rw [nms_len]; have HT4 := Aside0.mk hT4; clear hT4 HT3))
      go_roundw
      case rel => exact ⟨k + 1, A1, c1, by omega, by go_num, rfl, HT4⟩
      case measure => simp [intOf]; omega
    · obtain rfl : k = 1024 := by omega
      clear hlt hk
      go_wp2_with fail
      refine (tve_put HT.out (by rw [nms_len]; omega) more).mono ?_
      rw [full_same more]
      obtain ⟨x, hx⟩ : ∃ x : Nat, x = putN (nms 1024) more := ⟨_, rfl⟩
      rw [← hx]
      rintro e w3 ⟨ev, rfl, hT3⟩
      have HT3 := Aside0.mk hT3
      clear HT hT3
      go_wp2_with fail
      refine (tve_rput HT3.out (by rw [nms_len]; omega) more).mono ?_
      rw [full_same more, ← hx]
      obtain ⟨fc, fa, fn, hfv, hfi⟩ := fval_form (nms 1024) more
      rw [hfv]
      rintro e w4 ⟨v', rfl, hT4⟩
      have HT4 := Aside0.mk hT4
      have HF := Aside0.mk hfi
      clear HT3 hT4 hfi hfv hx
      have e1 : ((x : Int) != (x : Int)) = false := by simp
      go_wp2_with fail
      refine (tve_is (HT4.out.below (below_alloc (Below.refl _ _) _)) fc fa fn HF.out).mono ?_
      rintro e w5 ⟨rfl, hT5⟩
      have HT5 := Aside0.mk hT5
      clear HT4 hT5
      go_wp2_with fail
      refine (tve_len HT5.out).mono ?_
      rw [nms_len]
      rintro e w6 ⟨rfl, rfl⟩
      go_wp2_with fail
      refine (full_last HT5.out).mono ?_
      rintro e w6 ⟨rfl, hb6⟩
      go_wp2_with fail
      go_ret
      exact ⟨rfl, hb6⟩

end Go.Proofs.Ytgcjfobmccoibaa.Nm
