/- The fixed fact: it is true. No condition. -/
import Derived.Test.YtgcjfobmccoibaaNm6
set_option linter.unusedSimpArgs false
set_option linter.unusedVariables false
namespace Go.Proofs.Ytgcjfobmccoibaa.Nm
open Go.RowKit Go.Proofs.YtgcjfobmccoibaaW.PrintWords Go.Proofs.YtgcjfobmccoibaaW.PrintLast Go.Proofs.YtgcjfobmccoibaaW.PrintMore

theorem good_b : goodB ⟨#[98]⟩ = true := by decide +kernel
theorem good_a : goodB ⟨#[97]⟩ = true := by decide +kernel

set_option maxRecDepth 100000 in
set_option maxHeartbeats 1000000 in
theorem lives_calls (w : World) : Calls Try.prog 15 #[] w fun e w' => e = .returned (.bool true) ∧ Below w.heap.size w w' := by
  go_enter Try.func15, Try.ntmps15
  go_wp2_with fail
  refine (new_calls _).mono ?_
  rintro e w1 ⟨p, rfl, hT, hB⟩
  go_wp2_with fail
  refine (put_new hB hT ⟨#[98]⟩ good_b rfl (by decide)).mono ?_
  rintro e w2 ⟨rfl, hT2, hB2, hk2⟩
  have HB1 := Aside0.mk hB
  clear hB hT hk2
  go_wp2_with fail
  refine (put_new hB2 hT2 ⟨#[97]⟩ good_a (by decide +kernel) (by decide)).mono ?_
  rintro e w3 ⟨rfl, hT3, hB3, hk3⟩
  clear hT2 hB2 hk3
  go_wp2_with fail
  refine (len_calls hT3).mono ?_
  rintro e w4 ⟨rfl, rfl⟩
  go_wp2
  go_ret
  exact ⟨rfl, hB3⟩

end Go.Proofs.Ytgcjfobmccoibaa.Nm
