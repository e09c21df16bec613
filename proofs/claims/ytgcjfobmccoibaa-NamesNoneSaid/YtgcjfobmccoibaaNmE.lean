/- NamesNone: a nil table. No condition. -/
import Derived.Test.YtgcjfobmccoibaaNmC
set_option linter.unusedSimpArgs false
set_option linter.unusedVariables false
namespace Go.Proofs.Ytgcjfobmccoibaa.Nm
open Go.RowKit Go.Proofs.YtgcjfobmccoibaaW.PrintWords Go.Proofs.YtgcjfobmccoibaaW.PrintLast Go.Proofs.YtgcjfobmccoibaaW.PrintMore

theorem name_nil (n : Int) (w : World) : Calls Try.prog 21 #[.pointer none, .int .i64 n] w fun e w' => e = .returned (.tuple #[.string ⟨#[]⟩, .bool false]) ∧ w = w' := by
  by_cases h0 : n < 0
  · go_enter Try.func21, Try.ntmps21
    go_wp2_with fail
    go_ret2
    exact ⟨rfl, rfl⟩
  · go_enter Try.func21, Try.ntmps21
    go_wp2_with (go_at_call 20; refine (len_nil _).mono ?_; rintro e w' ⟨rfl, rfl⟩)
    go_ret2
    exact ⟨rfl, rfl⟩

set_option maxHeartbeats 400000 in
theorem copy_nil (w : World) : Calls Try.prog 32 #[.pointer none] w fun e w' => ∃ p, e = .returned (.pointer (some ⟨p, 0, none⟩)) ∧ Tbl w' w.heap.size (fun k => w.heap.size ≤ k) p [] ∧ Below w.heap.size w w' := by
  go_enter Try.func32, Try.ntmps32
  go_wp2_with fail
  refine (new_calls _).mono ?_
  rintro e w1 ⟨p, rfl, hT, hB⟩
  go_wp2_with fail
  go_ret
  exact ⟨p, rfl, hT, hB⟩

set_option maxRecDepth 100000 in
set_option maxHeartbeats 2000000 in
theorem none_calls (w : World) (s : ByteArray) (n : Int) :
    Calls Try.prog 8 #[.string s, .int .i64 n] w fun e w' => e = .returned (.bool true) ∧ Below w.heap.size w w' := by
  go_enter Try.func8, Try.ntmps8
  go_wp2_with fail
  refine (lives_calls _).mono ?_
  rintro e w1 ⟨rfl, hB1⟩
  have HB1 := Aside0.mk hB1
  clear hB1
  go_wp2_with fail
  refine (put_nil s _).mono ?_
  rintro e w2 ⟨ev, rfl, he, hB2⟩
  have HB2 := Aside0.mk (below_then HB1.out HB1.out.size hB2)
  have HE := Aside0.mk he
  clear HB1 hB2 he
  go_wp2_with fail
  refine (find_nil s _).mono ?_
  rintro e w3 ⟨rfl, rfl⟩
  go_wp2_with fail
  refine (name_nil n _).mono ?_
  rintro e w3 ⟨rfl, rfl⟩
  go_wp2_with fail
  refine (copy_nil _).mono ?_
  rintro e w3 ⟨p, rfl, hT, hB3⟩
  have HB3 := Aside0.mk (below_then HB2.out HB2.out.size hB3)
  have HE3 := Aside0.mk (HE.out.below hB3)
  have HT := Aside0.mk hT
  clear HB2 hB3 HE hT
  go_wp2_with fail
  refine (told_calls _ 0 (fun _ => True) none [] rfl (by simp) (-1)).mono ?_
  rintro e w4 ⟨v4, rfl, hR4, hB4⟩
  rw [show cut (-1) [] = [] by unfold cut; rw [if_neg (by decide)]] at hR4
  obtain ⟨A4, c4, rfl⟩ := Kd.R_slice hR4
  have HB4 := Aside0.mk (below_then HB3.out HB3.out.size hB4)
  have HE4 := Aside0.mk (HE3.out.below hB4)
  have HT4 := Aside0.mk (HT.out.below hB4)
  clear HB3 hB4 HE3 HT hR4
  go_wp2_with fail
  refine (is_calls _ _ (fun _ => True) ev [(1, -1, ⟨#[]⟩)] [(1, -1, ⟨#[]⟩)] 1 (-1) ⟨#[]⟩ (.slice none 0 0) ⟨_, _, _, rfl⟩ HE4.out ⟨rfl, by decide, rfl, rfl, _, _, rfl⟩).mono ?_
  rw [show decide ([((1 : Int), (-1 : Int), (⟨#[]⟩ : ByteArray))] = [((1 : Int), (-1 : Int), (⟨#[]⟩ : ByteArray))]) = true by simp]
  rintro e w5 ⟨rfl, hB5⟩
  have HB5 := Aside0.mk (below_then HB4.out HB4.out.size hB5)
  have HT5 := Aside0.mk (HT4.out.below hB5)
  clear HB4 hB5 HE4 HT4
  go_wp2_with fail
  refine (len_nil _).mono ?_
  rintro e w6 ⟨rfl, rfl⟩
  go_wp2_with fail
  refine (len_calls HT5.out).mono ?_
  rintro e w6 ⟨rfl, rfl⟩
  go_wp2_with fail
  go_ret
  exact ⟨rfl, HB5.out⟩

end Go.Proofs.Ytgcjfobmccoibaa.Nm
