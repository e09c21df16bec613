/- The document's Check. What is asked: how the graph is read. -/
import Derived.Test.YtgcjfobmccoibaaKb
import Derived.Test.YtgcjfobmccoibaaPGraphChecksx3
set_option linter.unusedSimpArgs false
set_option linter.unusedVariables false
namespace Go.Proofs.Ytgcjfobmccoibaa.Gr
open Go.RowKit Go.Proofs.YtgcjfobmccoibaaW.PrintWords Go.Proofs.YtgcjfobmccoibaaW.PrintLast Go.Proofs.YtgcjfobmccoibaaW.PrintMore
open Go.Proofs.Ytgcjfobmccoibaa.Nm
open Go.Proofs.Ytgcjfobmccoibaa.PGraphChecks (tendrilref04_good.f tendrilref04_good.l0 tendrilref04_good.j0 tendrilref03_Good.f tendrilref04_Check.f tendrilref04_Check.l0 tendrilref04_Check.l1 tendrilnum_At.f tendrilnum_No.f rd_T55)

theorem rgood_fK (s : ByteArray) : ∀ m, tendrilref03_Good.f (40 + m) s = some (goodB s)
  | 0 => rgood_f s
  | m + 1 => PGraphChecks.tendrilref03_Good.mono s (40 + m) _ (rgood_fK s m)
theorem rgood_fG (s : ByteArray) {k : Nat} (hk : 40 ≤ k) : tendrilref03_Good.f k s = some (goodB s) := by
  obtain ⟨m, rfl⟩ : ∃ m, k = 40 + m := ⟨k - 40, by omega⟩
  exact rgood_fK s m
theorem rargs_loop (N : Int) (f0 : Int) (f1 : ByteArray) (f2 : Int) (l : List Int) (hl : l.length ≤ 100) : ∀ (d k i : Nat), i + d = l.length → d + 41 ≤ k →
    tendrilref04_good.l0 k N (i : Int) f0 f1 f2 l = some ((l.drop i).all (inside N) && (goodB f1 && decide (f2 = 0)))
  | 0, k, i, hd, hk => by
    obtain ⟨k, rfl⟩ : ∃ m, k = m + 1 := ⟨k - 1, by omega⟩
    simp only [tendrilref04_good.l0]
    rw [if_neg (by omega), rgood_fG f1 (by omega), List.drop_of_length_le (by omega)]
    cases goodB f1 <;> simp [beqd]
  | d + 1, k, i, hd, hk => by
    obtain ⟨k, rfl⟩ : ∃ m, k = m + 1 := ⟨k - 1, by omega⟩
    have hi : i < l.length := by omega
    simp only [tendrilref04_good.l0]
    rw [if_pos (by omega), if_pos (by omega), rd_getD, List.drop_eq_getElem_cons hi, List.all_cons, List.getD_eq_getElem?_getD, List.getElem?_eq_getElem hi, Option.getD_some, wrap_one (by omega)]
    by_cases h1 : l[i] < 0
    · rw [if_pos h1, show inside N l[i] = false by simp [inside]; omega]; rfl
    · rw [if_neg h1]
      by_cases h2 : l[i] ≥ N
      · rw [if_pos h2, show inside N l[i] = false by simp [inside]; omega]; rfl
      · rw [if_neg h2, show inside N l[i] = true by simp [inside]; omega, rargs_loop N f0 f1 f2 l hl d k (i + 1) (by omega) (by omega), Bool.true_and]
theorem rnode_f (x : S55) (N : Int) {k : Nat} (hk : 60 ≤ k) : tendrilref04_good.f k x.f0 x.f1 x.f2 x.f3 N = some (goodN x N) := by
  obtain ⟨f0, f1, f2, f3⟩ := x
  dsimp only
  unfold tendrilref04_good.f goodN
  dsimp only
  obtain ⟨k, rfl⟩ : ∃ m, k = m + 1 := ⟨k - 1, by omega⟩
  by_cases h4 : f0 = 4
  · rw [if_pos h4, if_pos h4]
    by_cases h1 : (f3.length : Int) < 1
    · rw [if_pos h1]
      simp only [tendrilref04_good.j0]
      have : ¬ (1 ≤ f3.length) := by omega
      simp [this]
    · rw [if_neg h1]
      by_cases h8 : (f3.length : Int) > 8
      · rw [decide_eq_true h8]
        simp only [tendrilref04_good.j0]
        have : ¬ (f3.length ≤ 8) := by omega
        simp [this]
      · rw [decide_eq_false h8]
        simp only [tendrilref04_good.j0]
        rw [if_neg (by simp), show (0 : Int) = ((0 : Nat) : Int) from rfl, rargs_loop N f0 f1 f2 f3 (by omega) f3.length k 0 (by omega) (by omega)]
        have a1 : 1 ≤ f3.length := by omega
        have a2 : f3.length ≤ 8 := by omega
        simp only [List.drop_zero, decide_eq_true a1, decide_eq_true a2, Bool.true_and]
        cases f3.all (inside N) <;> cases goodB f1 <;> simp
  · rw [if_neg h4, if_neg h4]
    by_cases h0 : 0 < f3.length
    · rw [if_pos (by omega), if_pos h0]
    · rw [if_neg (by omega), if_neg h0]
      by_cases h1 : f0 = 1
      · rw [if_pos h1, if_pos h1]
        by_cases hs : f1.size = 0
        · rw [if_pos (toList_nil.2 hs)]; simp [hs, beqd]
        · rw [if_neg (fun h => hs (toList_nil.1 h))]; simp [hs]
      · rw [if_neg h1, if_neg h1]
        by_cases h2 : f0 = 2
        · rw [if_pos h2, if_pos h2, rgood_fG f1 (by omega)]
          cases goodB f1 <;> simp [beqd]
        · rw [if_neg h2, if_neg h2]
          by_cases h3 : f0 = 3
          · rw [if_pos h3, if_pos h3]
            by_cases hs : f1.size = 0
            · rw [if_pos (toList_nil.2 hs)]
              by_cases hb : f2 ≤ 1125899906842624
              · rw [if_pos hb]; simp [hs, hb]
              · rw [if_neg hb]; simp [hs, hb]
            · rw [if_neg (fun h => hs (toList_nil.1 h))]; simp [hs]
          · rw [if_neg h3, if_neg h3]
/-- A fault as the reference hands it back. -/
def refF : List (Int × Int × ByteArray) → Int × Int × ByteArray × List S33
  | [] => (0, 0, ⟨#[]⟩, [])
  | (c, a, n) :: _ => (c, a, n, [])
def chkR (ns : List S55) (rs : List Int) : List (Int × Int × ByteArray) := match rs.findIdx? (fun r => !inside ns.length r) with
  | some i => [(43, (i : Int), ⟨#[]⟩)]
  | none => []
theorem rcheck_roots (ns : List S55) (rs : List Int) (hl : rs.length ≤ 4096) : ∀ (d k i : Nat), i + d = rs.length → d < k → (∀ x ∈ rs.take i, (!inside ns.length x) = false) →
    tendrilref04_Check.l1 k (i : Int) ns rs = some (refF (chkR ns rs))
  | 0, k, i, hd, hk, h => by
    obtain ⟨k, rfl⟩ : ∃ m, k = m + 1 := ⟨k - 1, by omega⟩
    simp only [tendrilref04_Check.l1]
    rw [if_neg (by omega)]
    unfold chkR
    rw [findIdx_no (by rwa [List.take_of_length_le (by omega)] at h)]
    rfl
  | d + 1, k, i, hd, hk, h => by
    obtain ⟨k, rfl⟩ : ∃ m, k = m + 1 := ⟨k - 1, by omega⟩
    have hi : i < rs.length := by omega
    simp only [tendrilref04_Check.l1]
    rw [if_pos (by omega), if_pos (by omega), rd_getD]
    cases hin : inside ns.length (rs.getD i 0) with
    | true =>
      have h1 := inside_iff.1 hin
      rw [if_neg (by omega), if_neg (by omega), wrap_one (by omega)]
      exact rcheck_roots ns rs hl d k (i + 1) (by omega) (by omega) (take_step hi h 0 (by rw [hin]; rfl))
    | false =>
      have hf : rs.findIdx? (fun r => !inside ns.length r) = some i := findIdx_at hi h 0 (by rw [hin]; rfl)
      have hr : chkR ns rs = [(43, (i : Int), ⟨#[]⟩)] := by unfold chkR; rw [hf]
      rw [hr]
      by_cases h0 : rs.getD i 0 < 0
      · rw [if_pos h0]; rfl
      · rw [if_neg h0, if_pos (by have := mt inside_iff.2 (by rw [hin]; decide); omega)]; rfl
theorem rcheck_nodes (ns : List S55) (rs : List Int) (hn : ns.length ≤ 4096) (hl : rs.length ≤ 4096) : ∀ (d k i : Nat), i + d = ns.length → d + rs.length + 70 < k → (∀ x ∈ ns.take i, (!goodN x ns.length) = false) →
    tendrilref04_Check.l0 k (i : Int) ns rs = some (refF (match ns.findIdx? (fun x => !goodN x ns.length) with | some i => [(40, (i : Int), ⟨#[]⟩)] | none => chkR ns rs))
  | 0, k, i, hd, hk, h => by
    obtain ⟨k, rfl⟩ : ∃ m, k = m + 1 := ⟨k - 1, by omega⟩
    simp only [tendrilref04_Check.l0]
    rw [if_neg (by omega), findIdx_no (by rwa [List.take_of_length_le (by omega)] at h)]
    exact rcheck_roots ns rs hl rs.length k 0 (by omega) (by omega) (by simp)
  | d + 1, k, i, hd, hk, h => by
    obtain ⟨k, rfl⟩ : ∃ m, k = m + 1 := ⟨k - 1, by omega⟩
    have hi : i < ns.length := by omega
    simp only [tendrilref04_Check.l0]
    rw [if_pos (by omega), if_pos (by omega), rnode_f (rd_T55 ns (i : Int)) _ (by omega)]
    have hrd : rd_T55 ns (i : Int) = ns.getD i z55 := rfl
    rw [hrd]
    cases hg : goodN (ns.getD i z55) ns.length with
    | true =>
      simp only [Option.bind_some, if_true]
      rw [wrap_one (by omega)]
      exact rcheck_nodes ns rs hn hl d k (i + 1) (by omega) (by omega) (take_step hi h z55 (by rw [hg]; rfl))
    | false =>
      have hf : ns.findIdx? (fun x => !goodN x ns.length) = some i := findIdx_at hi h z55 (by rw [hg]; rfl)
      rw [hf]
      rfl
theorem rcheck_f (ns : List S55) (rs : List Int) {k : Nat} (hk : 9000 ≤ k) : tendrilref04_Check.f k ns rs = some (refF (chk ns rs)) := by
  unfold tendrilref04_Check.f chk
  by_cases h1 : 4096 < ns.length
  · rw [if_pos (by omega), if_pos h1]; rfl
  · rw [if_neg (by omega), if_neg h1]
    by_cases h2 : 4096 < rs.length
    · rw [if_pos (by omega), if_pos h2]; rfl
    · rw [if_neg (by omega), if_neg h2]
      exact rcheck_nodes ns rs (by omega) (by omega) ns.length k 0 (by omega) (by omega) (by simp)
theorem rcheck_calls (w : World) (A : Option Addr) (c : Nat) (ns : List S55) (A' : Option Addr) (c' : Nat) (rs : List Int) (h : IsG w A c ns A' c' rs) :
    Calls Try.prog 30 #[gv A c ns A' c' rs] w fun e w' => ∃ (fc fa : Int) (fn : ByteArray) (A2 : Option Addr) (k2 : Nat), e = .returned (.agg #[.int .i64 fc, .int .i64 fa, .string fn, .slice A2 0 k2]) ∧ FIs w' (fun _ => True) fc fa fn (.slice A2 0 k2) (chk ns rs) ∧ Below w.heap.size w w' := by
  have hf := rcheck_f ns rs (k := 9000) (by omega)
  rcases chk_len ns rs with h0 | ⟨c0, a0, h0, h1⟩
  · rw [h0] at hf ⊢
    refine (PGraphChecks.tendrilref04_Check.calls 9000 A c ns A' c' rs 0 0 ⟨#[]⟩ [] w h.n h.ln h.r h.lr hf).mono ?_
    rintro e w' ⟨v, rfl, hR, hB⟩
    obtain ⟨A2, k2, rfl⟩ := Kd.R_slice hR
    exact ⟨_, _, _, A2, k2, rfl, rfl, hB⟩
  · rw [h0] at hf ⊢
    refine (PGraphChecks.tendrilref04_Check.calls 9000 A c ns A' c' rs c0 a0 ⟨#[]⟩ [] w h.n h.ln h.r h.lr hf).mono ?_
    rintro e w' ⟨v, rfl, hR, hB⟩
    obtain ⟨A2, k2, rfl⟩ := Kd.R_slice hR
    exact ⟨_, _, _, A2, k2, rfl, ⟨rfl, h1, rfl, rfl, _, _, rfl⟩, hB⟩

end Go.Proofs.Ytgcjfobmccoibaa.Gr
