/- Which texts are names: both texts of Good come to the same test; and what Name comes to. No condition but those that each theorem states. -/
import Derived.Test.YtgcjfobmccoibaaNm2
namespace Go.Proofs.Ytgcjfobmccoibaa.Nm
open Go.RowKit Go.Proofs.YtgcjfobmccoibaaW.PrintWords Go.Proofs.YtgcjfobmccoibaaW.PrintLast Go.Proofs.YtgcjfobmccoibaaW.PrintMore

/-- From place i on all bytes are those of names. -/
def bytesOk (s : ByteArray) (i : Nat) : Prop := ∀ j : Nat, i ≤ j → j < s.size → 33 ≤ bt s (j : Int) ∧ bt s (j : Int) ≤ 126
instance (s : ByteArray) (i : Nat) : Decidable (bytesOk s i) :=
  decidable_of_iff (∀ j, j < s.size → i ≤ j → 33 ≤ bt s (j : Int) ∧ bt s (j : Int) ≤ 126) ⟨fun h j a b => h j b a, fun h j a b => h j b a⟩
/-- A text is a name. -/
def goodB (s : ByteArray) : Bool := decide (1 ≤ s.size ∧ s.size ≤ 32 ∧ bytesOk s 0)

theorem bytesOk_end (s : ByteArray) (i : Nat) (h : s.size ≤ i) : bytesOk s i := fun j a b => by omega
theorem bytesOk_step {s : ByteArray} {i : Nat} (h : i < s.size) (hb : 33 ≤ bt s (i : Int) ∧ bt s (i : Int) ≤ 126) : bytesOk s i ↔ bytesOk s (i + 1) := by
  constructor
  · intro k j a b
    exact k j (by omega) b
  · intro k j a b
    by_cases e : j = i
    · subst e; exact hb
    · exact k j (by omega) b
theorem wrap_one {i : Nat} (h : i ≤ 9223372036854775806) : wrap64 ((i : Int) + 1) = ((i + 1 : Nat) : Int) := by
  unfold wrap64; omega

theorem good_loop (s : ByteArray) (hs : s.size ≤ 32) : ∀ (d k i : Nat), i + d = s.size → d < k →
    PGraphChecks.names_Good.l0 k s (s.size : Int) (i : Int) = some (decide (bytesOk s i))
  | 0, k, i, hd, hk => by
    obtain ⟨k, rfl⟩ : ∃ m, k = m + 1 := ⟨k - 1, by omega⟩
    simp only [PGraphChecks.names_Good.l0]
    rw [if_neg (by omega), decide_eq_true (bytesOk_end s i (by omega))]
  | d + 1, k, i, hd, hk => by
    obtain ⟨k, rfl⟩ : ∃ m, k = m + 1 := ⟨k - 1, by omega⟩
    simp only [PGraphChecks.names_Good.l0]
    rw [if_pos (by omega), if_pos (by omega), if_pos (by omega)]
    by_cases h1 : bt s (i : Int) < 33
    · rw [if_pos h1, decide_eq_false (fun h => by have := h i (Nat.le_refl _) (by omega); omega)]
    · rw [if_neg h1]
      by_cases h2 : bt s (i : Int) > 126
      · rw [if_pos h2, decide_eq_false (fun h => by have := h i (Nat.le_refl _) (by omega); omega)]
      · rw [if_neg h2, wrap_one (by omega), good_loop s hs d k (i + 1) (by omega) (by omega)]
        rw [decide_eq_decide.2 (bytesOk_step (by omega) ⟨by omega, by omega⟩).symm]

theorem rgood_loop (s : ByteArray) (hs : s.size ≤ 32) : ∀ (d k i : Nat), i + d = s.size → d < k →
    PGraphChecks.tendrilref03_Good.l0 k s (i : Int) = some (decide (bytesOk s i))
  | 0, k, i, hd, hk => by
    obtain ⟨k, rfl⟩ : ∃ m, k = m + 1 := ⟨k - 1, by omega⟩
    simp only [PGraphChecks.tendrilref03_Good.l0]
    rw [if_neg (by omega), decide_eq_true (bytesOk_end s i (by omega))]
  | d + 1, k, i, hd, hk => by
    obtain ⟨k, rfl⟩ : ∃ m, k = m + 1 := ⟨k - 1, by omega⟩
    simp only [PGraphChecks.tendrilref03_Good.l0]
    rw [if_pos (by omega), if_pos (by omega)]
    by_cases h1 : bt s (i : Int) ≤ 32
    · rw [if_pos h1, decide_eq_false (fun h => by have := h i (Nat.le_refl _) (by omega); omega)]
    · rw [if_neg h1]
      by_cases h2 : bt s (i : Int) ≥ 127
      · rw [if_pos h2, decide_eq_false (fun h => by have := h i (Nat.le_refl _) (by omega); omega)]
      · rw [if_neg h2, wrap_one (by omega), rgood_loop s hs d k (i + 1) (by omega) (by omega)]
        rw [decide_eq_decide.2 (bytesOk_step (by omega) ⟨by omega, by omega⟩).symm]

theorem toList_nil {s : ByteArray} : s.toList = [] ↔ s.size = 0 := by
  rw [Go.ByteArray.toList_eq]
  constructor
  · intro h
    have := congrArg List.length h
    simpa using this
  · intro h
    exact List.eq_nil_of_length_eq_zero (by simpa using h)

theorem good_f (s : ByteArray) : PGraphChecks.names_Good.f 40 s = some (goodB s) := by
  unfold PGraphChecks.names_Good.f goodB
  by_cases h0 : s.size = 0
  · rw [if_pos (toList_nil.2 h0)]
    simp only [PGraphChecks.names_Good.j0]
    rw [decide_eq_false (by omega)]
    rfl
  · rw [if_neg (fun h => h0 (toList_nil.1 h))]
    by_cases h1 : s.size ≤ 32
    · rw [decide_eq_false (by omega)]
      simp only [PGraphChecks.names_Good.j0]
      rw [if_neg (by decide), show (0 : Int) = ((0 : Nat) : Int) from rfl, good_loop s h1 s.size 39 0 (by omega) (by omega)]
      exact congrArg some (decide_eq_decide.2 ⟨fun h => ⟨by omega, h1, h⟩, fun h => h.2.2⟩)
    · rw [decide_eq_true (by omega)]
      simp only [PGraphChecks.names_Good.j0]
      rw [decide_eq_false (by omega)]
      rfl

theorem rgood_f (s : ByteArray) : PGraphChecks.tendrilref03_Good.f 40 s = some (goodB s) := by
  unfold PGraphChecks.tendrilref03_Good.f goodB
  by_cases h0 : s.size = 0
  · rw [if_pos (by omega)]
    simp only [PGraphChecks.tendrilref03_Good.j0]
    rw [decide_eq_false (by omega)]
    rfl
  · rw [if_neg (by omega)]
    by_cases h1 : s.size ≤ 32
    · rw [decide_eq_false (by omega)]
      simp only [PGraphChecks.tendrilref03_Good.j0]
      rw [if_neg (by decide), show (0 : Int) = ((0 : Nat) : Int) from rfl, rgood_loop s h1 s.size 39 0 (by omega) (by omega)]
      exact congrArg some (decide_eq_decide.2 ⟨fun h => ⟨by omega, h1, h⟩, fun h => h.2.2⟩)
    · rw [decide_eq_true (by omega)]
      simp only [PGraphChecks.tendrilref03_Good.j0]
      rw [decide_eq_false (by omega)]
      rfl

theorem good_calls (s : ByteArray) (w : World) : Calls Try.prog 23 #[.string s] w fun e w' => e = .returned (.bool (goodB s)) ∧ Drawn0 w w' := PGraphChecks.names_Good.calls 40 s _ w (good_f s)
theorem rgood_calls (s : ByteArray) (w : World) : Calls Try.prog 24 #[.string s] w fun e w' => e = .returned (.bool (goodB s)) ∧ Drawn0 w w' := PGraphChecks.tendrilref03_Good.calls 40 s _ w (rgood_f s)

end Go.Proofs.Ytgcjfobmccoibaa.Nm
