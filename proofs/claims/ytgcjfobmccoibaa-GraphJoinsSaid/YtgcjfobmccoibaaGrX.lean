/- The document's Join: its plain law, its contract. What is asked: how the list of graphs is read; that it has at most 1000 graphs. -/
import Derived.Test.YtgcjfobmccoibaaGrU
import Derived.Test.YtgcjfobmccoibaaGrQ4
import Derived.Test.YtgcjfobmccoibaaKbR
set_option linter.unusedSimpArgs false
set_option linter.unusedVariables false
namespace Go.Proofs.Ytgcjfobmccoibaa.Gr
open Go.RowKit Go.Proofs.YtgcjfobmccoibaaW.PrintWords Go.Proofs.YtgcjfobmccoibaaW.PrintLast Go.Proofs.YtgcjfobmccoibaaW.PrintMore
open Go.Proofs.Ytgcjfobmccoibaa.Nm
open Go.Proofs.Ytgcjfobmccoibaa.PGraphChecks

theorem ev_succ {α : Type} {g h : Nat → Option α} {r : α} (e : ∀ k, g (k + 1) = h k) (hh : Ev h r) : Ev g r := by
  obtain ⟨K, hK⟩ := hh
  refine ⟨K + 1, fun k hk => ?_⟩
  obtain ⟨k, rfl⟩ : ∃ m, k = m + 1 := ⟨k - 1, by omega⟩
  rw [e]
  exact hK k (by omega)
theorem rd52 (gs : List S52) (i : Nat) : rd_T52 gs (i : Int) = gs.getD i z52 := rfl
abbrev JR := List S55 × List Int × Int × Int × ByteArray × List S33

theorem j3 (gs : List S52) (i : Int) (b : Int) (j : Nat) (N : List S55) (R : List Int) (f0 : Int) (f1 : ByteArray) (f2 : Int) (f3 : List Int) (r : JR) (hb : 0 ≤ b ∧ b ≤ 100000) (hin : ∀ a ∈ f3, 0 ≤ a ∧ a ≤ 100000) (hf : f3.length ≤ 1000) (hj : j ≤ 100000) (hN : N.length ≤ 100000) :
    ∀ (d q : Nat) (acc : List Int), q + d = f3.length → acc.length = q → Ev (fun k => tendrilref04_Join.l2 k gs i b ((j + 1 : Nat) : Int) (N ++ [⟨f0, f1, f2, acc ++ (f3.drop q).map (· + b)⟩]) R) r →
      Ev (fun k => tendrilref04_Join.l3 k gs i b (j : Int) acc (q : Int) N R f0 f1 f2 f3) r
  | 0, q, acc, hd, ha, h => by
    refine ev_succ (fun k => ?_) h
    simp only [tendrilref04_Join.l3]
    rw [if_neg (by omega), if_pos (by omega), List.drop_of_length_le (by omega), wrap_one (by omega)]
    simp
  | d + 1, q, acc, hd, ha, h => by
    have hq : q < f3.length := by omega
    have hx := hin f3[q] (List.getElem_mem hq)
    refine ev_succ (fun k => ?_) (j3 gs i b j N R f0 f1 f2 f3 r hb hin hf hj hN d (q + 1) (acc ++ [f3[q] + b]) (by omega) (by simp [ha]) ?_)
    · simp only [tendrilref04_Join.l3]
      rw [if_pos (by omega), if_pos (by omega), if_pos (by omega), rd_getD, getD_get 0 hq, wrap_in (by omega) (by omega), wrap_one (by omega)]
    · rw [List.drop_eq_getElem_cons hq, List.map_cons] at h
      rw [List.append_assoc]
      exact h
theorem j2 (gs : List S52) (i B : Nat) (hi : i < gs.length) (g : S52) (hg : gs.getD i z52 = g) (R : List Int) (r : JR) (hB : B ≤ 10000) (hck : chk g.f0 g.f1 = []) :
    ∀ (d j : Nat) (N : List S55), j + d = g.f0.length → N.length + d ≤ 100000 → Ev (fun k => tendrilref04_Join.l4 k gs (i : Int) (B : Int) 0 (N ++ (g.f0.drop j).map (shiftN B)) R) r →
      Ev (fun k => tendrilref04_Join.l2 k gs (i : Int) (B : Int) (j : Int) N R) r
  | 0, j, N, hd, hN, h => by
    refine ev_succ (fun k => ?_) h
    simp only [tendrilref04_Join.l2, rd52, hg]
    rw [if_pos (by omega), if_pos (by omega), if_neg (by omega), List.drop_of_length_le (by omega)]
    simp
  | d + 1, j, N, hd, hN, h => by
    have hj : j < g.f0.length := by omega
    have hp := chk_parts hck
    have hga := goodN_args (hp.2.2.1 _ (List.getElem_mem hj))
    have ih := j2 gs i B hi g hg R r hB hck d (j + 1) (N ++ [shiftN B g.f0[j]]) (by omega) (by simp; omega) (by
      rw [List.drop_eq_getElem_cons hj, List.map_cons] at h
      rw [List.append_assoc]
      exact h)
    refine ev_succ (fun k => ?_) (j3 gs (i : Int) (B : Int) j N R g.f0[j].f0 g.f0[j].f1 g.f0[j].f2 g.f0[j].f3 r ⟨by omega, by omega⟩ (fun a ha => ?_) (by omega) (by omega) (by omega) g.f0[j].f3.length 0 [] (by omega) rfl ?_)
    · simp only [tendrilref04_Join.l2, rd52, hg]
      rw [if_pos (by omega), if_pos (by omega), if_pos (by omega), if_pos (by omega), rdT, getD_get z55 hj]
      rfl
    · have := inside_iff.1 (hga.1 a ha)
      omega
    · simpa [shiftN] using ih
theorem j4 (gs : List S52) (i B : Nat) (hi : i < gs.length) (hi2 : gs.length ≤ 1000) (g : S52) (hg : gs.getD i z52 = g) (N : List S55) (r : JR) (hB : B ≤ 10000) (hck : chk g.f0 g.f1 = []) :
    ∀ (d j : Nat) (R : List Int), j + d = g.f1.length → R.length + d ≤ 100000 → Ev (fun k => tendrilref04_Join.l1 k gs ((i + 1 : Nat) : Int) N (R ++ shiftL B (g.f1.drop j))) r →
      Ev (fun k => tendrilref04_Join.l4 k gs (i : Int) (B : Int) (j : Int) N R) r
  | 0, j, R, hd, hR, h => by
    refine ev_succ (fun k => ?_) h
    simp only [tendrilref04_Join.l4, rd52, hg]
    rw [if_pos (by omega), if_pos (by omega), if_neg (by omega), List.drop_of_length_le (by omega), wrap_one (by omega)]
    simp [shiftL]
  | d + 1, j, R, hd, hR, h => by
    have hj : j < g.f1.length := by omega
    have hp := chk_parts hck
    have hga := inside_iff.1 (hp.2.2.2 _ (List.getElem_mem hj))
    refine ev_succ (fun k => ?_) (j4 gs i B hi hi2 g hg N r hB hck d (j + 1) (R ++ [g.f1[j] + (B : Int)]) (by omega) (by simp; omega) ?_)
    · simp only [tendrilref04_Join.l4, rd52, hg]
      rw [if_pos (by omega), if_pos (by omega), if_pos (by omega), if_pos (by omega), if_pos (by omega), rd_getD, getD_get 0 hj, wrap_one (i := j) (by omega), wrap_in (by omega) (by omega)]
    · rw [List.drop_eq_getElem_cons hj] at h
      rw [List.append_assoc]
      exact h
theorem j1 (gs : List S52) (hl : gs.length ≤ 1000) (hgood : ∀ g ∈ gs, badG g = false) : ∀ (d i : Nat) (N : List S55) (R : List Int), i + d = gs.length → N.length + sumN (gs.drop i) ≤ 10000 → R.length + sumR (gs.drop i) ≤ 10000 →
    Ev (fun k => tendrilref04_Join.l1 k gs (i : Int) N R) (((prs (gs.drop i)).foldl joinStep (N, R)).1, ((prs (gs.drop i)).foldl joinStep (N, R)).2, 0, 0, ⟨#[]⟩, [])
  | 0, i, N, R, hd, h1, h2 => by
    refine ⟨1, fun k hk => ?_⟩
    obtain ⟨k, rfl⟩ : ∃ m, k = m + 1 := ⟨k - 1, by omega⟩
    simp only [tendrilref04_Join.l1]
    rw [if_neg (by omega), List.drop_of_length_le (by omega)]
    rfl
  | d + 1, i, N, R, hd, h1, h2 => by
    have hi : i < gs.length := by omega
    have hck := badG_no (hgood _ (getD_mem (d := z52) hi))
    have hdr : gs.drop i = gs.getD i z52 :: gs.drop (i + 1) := by rw [List.drop_eq_getElem_cons hi]; simp [hi]
    rw [hdr] at h1 h2 ⊢
    simp only [sumN, sumR, List.map_cons, List.sum_cons] at h1 h2
    have ih := j1 gs hl hgood d (i + 1) (N ++ (gs.getD i z52).f0.map (shiftN N.length)) (R ++ shiftL N.length (gs.getD i z52).f1) (by omega) (by simp only [sumN, List.length_append, List.length_map]; omega) (by simp only [sumR, shiftL, List.length_append, List.length_map]; omega)
    refine ev_succ (fun k => ?_) (j2 gs i N.length hi _ rfl R _ (by omega) hck (gs.getD i z52).f0.length 0 N (by omega) (by omega) ?_)
    · simp only [tendrilref04_Join.l1]
      rw [if_pos (by omega)]
      rfl
    · rw [List.drop_zero]
      refine j4 gs i N.length hi hl _ rfl _ _ (by omega) hck (gs.getD i z52).f1.length 0 R (by omega) (by omega) ?_
      rw [List.drop_zero]
      exact ih
/-- What the document's Join hands back. -/
def refJ (gs : List S52) : JR := match joinE gs with
  | [] => ((joinG (prs gs)).1, (joinG (prs gs)).2, 0, 0, ⟨#[]⟩, [])
  | (c, a, n) :: r => ([], [], c, a, n, r.map fun p => ⟨p.1, p.2.1, p.2.2, []⟩)
theorem j0 (gs : List S52) (hl : gs.length ≤ 1000) : ∀ (d i : Nat), i + d = gs.length → (∀ x ∈ gs.take i, badG x = false) →
    Ev (fun k => tendrilref04_Join.l0 k gs (sumN (gs.take i) : Int) (sumR (gs.take i) : Int) (i : Int)) (refJ gs)
  | 0, i, hd, h => by
    obtain rfl : i = gs.length := by omega
    rw [List.take_length] at h ⊢
    have hnf : gs.findIdx? badG = none := findIdx_no h
    by_cases hN : 4096 < sumN gs
    · have hE : joinE gs = [(41, (sumN gs : Int), ⟨#[]⟩)] := by unfold joinE; rw [hnf]; dsimp only; rw [if_pos hN]
      refine ⟨1, fun k hk => ?_⟩
      obtain ⟨k, rfl⟩ : ∃ m, k = m + 1 := ⟨k - 1, by omega⟩
      simp only [tendrilref04_Join.l0]
      rw [if_neg (by omega), if_pos (by omega)]
      unfold refJ
      rw [hE]
      rfl
    · by_cases hR : 4096 < sumR gs
      · have hE : joinE gs = [(42, (sumR gs : Int), ⟨#[]⟩)] := by unfold joinE; rw [hnf]; dsimp only; rw [if_neg hN, if_pos hR]
        refine ⟨1, fun k hk => ?_⟩
        obtain ⟨k, rfl⟩ : ∃ m, k = m + 1 := ⟨k - 1, by omega⟩
        simp only [tendrilref04_Join.l0]
        rw [if_neg (by omega), if_neg (by omega), if_pos (by omega)]
        unfold refJ
        rw [hE]
        rfl
      · have hE : joinE gs = [] := by unfold joinE; rw [hnf]; dsimp only; rw [if_neg hN, if_neg hR]
        have := j1 gs hl h gs.length 0 [] [] (by omega) (by simp; omega) (by simp; omega)
        rw [List.drop_zero] at this
        refine ev_succ (fun k => ?_) (show Ev _ (refJ gs) from by unfold refJ; rw [hE]; exact this)
        simp only [tendrilref04_Join.l0]
        rw [if_neg (by omega), if_neg (by omega), if_neg (by omega)]
        rfl
  | d + 1, i, hd, h => by
    have hi : i < gs.length := by omega
    have hb := sum_le h
    rw [List.length_take, Nat.min_eq_left (by omega)] at hb
    cases hbg : badG (gs.getD i z52) with
    | false =>
      have hck := badG_no hbg
      have hp := chk_parts hck
      have ih := j0 gs hl d (i + 1) (by omega) (take_step hi h z52 hbg)
      rw [sumN_take hi, sumR_take hi] at ih
      obtain ⟨K, hK⟩ := ih
      refine ⟨K + 9001, fun k hk => ?_⟩
      obtain ⟨k, rfl⟩ : ∃ m, k = m + 1 := ⟨k - 1, by omega⟩
      simp only [tendrilref04_Join.l0, rd52]
      rw [if_pos (by omega), if_pos (by omega), rcheck_f _ _ (by omega), hck]
      have := hK k (by omega)
      simp only [refF, Option.bind_some, tendrilnum_F_Bad.f]
      rw [if_neg (by decide), wrap_in (by omega) (by omega), wrap_in (by omega) (by omega), wrap_one (by omega)]
      rw [← this]
      congr 1
    | true =>
      have hck := badG_yes hbg
      obtain ⟨c, a, hc, hc0⟩ := (chk_len (gs.getD i z52).f0 (gs.getD i z52).f1).resolve_left hck
      have hE : joinE gs = [(44, (i : Int), ⟨#[]⟩), (c, a, ⟨#[]⟩)] := by
        unfold joinE
        rw [findIdx_at hi h z52 hbg]
        dsimp only
        rw [hc]
      refine ⟨9001, fun k hk => ?_⟩
      obtain ⟨k, rfl⟩ : ∃ m, k = m + 1 := ⟨k - 1, by omega⟩
      simp only [tendrilref04_Join.l0, rd52]
      rw [if_pos (by omega), if_pos (by omega), rcheck_f _ _ (by omega), hc]
      simp only [refF, Option.bind_some, tendrilnum_F_Bad.f]
      rw [if_pos (by simpa using hc0)]
      unfold refJ
      rw [hE]
      rfl
theorem rjoin_f (gs : List S52) (hl : gs.length ≤ 1000) : ∃ k, tendrilref04_Join.f k gs = some (refJ gs) := by
  have := j0 gs hl gs.length 0 (by omega) (by simp)
  obtain ⟨K, hK⟩ := this
  exact ⟨K, by have := hK K (Nat.le_refl _); simpa [tendrilref04_Join.f, sumN, sumR] using this⟩

theorem joinE_form (gs : List S52) : joinE gs = [] ∨ (∃ c a, joinE gs = [(c, a, ⟨#[]⟩)] ∧ c ≠ 0) ∨ (∃ i c a, joinE gs = [(44, i, ⟨#[]⟩), (c, a, ⟨#[]⟩)] ∧ c ≠ 0) := by
  unfold joinE
  cases hf : gs.findIdx? badG with
  | some i =>
    have hb : badG (gs.getD i z52) = true := by
      obtain ⟨h1, h2, _⟩ := List.findIdx?_eq_some_iff_getElem.1 hf
      rw [getD_get z52 h1]
      exact h2
    obtain ⟨c, a, hc, hc0⟩ := (chk_len (gs.getD i z52).f0 (gs.getD i z52).f1).resolve_left (badG_yes hb)
    dsimp only
    rw [hc]
    exact .inr (.inr ⟨_, c, a, rfl, hc0⟩)
  | none =>
    dsimp only
    split
    · exact .inr (.inl ⟨_, _, rfl, by decide⟩)
    · split
      · exact .inr (.inl ⟨_, _, rfl, by decide⟩)
      · exact .inl rfl
theorem rjoin_calls (w : World) (A : Option Addr) (c : Nat) (gs : List S52) (hC : Kd.C k52 w A gs.length gs) (hc : gs.length ≤ c) (hl : gs.length ≤ 1000) :
    Calls Try.prog 36 #[.slice A gs.length c] w fun e w' => ∃ B0 b0 B1 b1 fc fa fn F2 l2 k2, e = .returned (.tuple #[gv B0 b0 (refJ gs).1 B1 b1 (refJ gs).2.1, .agg #[.int .i64 fc, .int .i64 fa, .string fn, .slice F2 l2 k2]]) ∧ IsG w' B0 b0 (refJ gs).1 B1 b1 (refJ gs).2.1 ∧
      FIs w' (fun _ => True) fc fa fn (.slice F2 l2 k2) (joinE gs) ∧ Below w.heap.size w w' := by
  obtain ⟨k, hk⟩ := rjoin_f gs hl
  have hform := joinE_form gs
  obtain ⟨r1, r2, r3, r4, r5, r6, hr⟩ : ∃ r1 r2 r3 r4 r5 r6, refJ gs = (r1, r2, r3, r4, r5, r6) := ⟨_, _, _, _, _, _, rfl⟩
  rw [hr] at hk
  refine (tendrilref04_Join.calls k A c gs r1 r2 r3 r4 r5 r6 w hC hc hk).mono ?_
  rintro e w' ⟨v0, v1, v5, rfl, h0, h1, h5, hB⟩
  obtain ⟨B0, b0, rfl, l0, g0⟩ := Kd.N_reads h0
  obtain ⟨B1, b1, rfl, l1, g1⟩ := Kd.R_reads h1
  obtain ⟨F2, k2, rfl, l5, g5⟩ := Kd.N_reads h5
  rw [hr]
  refine ⟨B0, b0, B1, b1, r3, r4, r5, F2, _, k2, rfl, ⟨g0, g1, l0, l1⟩, ?_, hB⟩
  unfold refJ at hr
  rcases hform with h | ⟨c, a, h, hc0⟩ | ⟨i, c, a, h, hc0⟩
  · rw [h] at hr ⊢
    simp only [Prod.mk.injEq] at hr
    exact hr.2.2.1.symm
  · rw [h] at hr ⊢
    simp only [Prod.mk.injEq, List.map_nil] at hr
    obtain ⟨_, _, rfl, rfl, rfl, rfl⟩ := hr
    exact ⟨rfl, hc0, rfl, rfl, _, _, rfl⟩
  · rw [h] at hr ⊢
    simp only [Prod.mk.injEq, List.map_cons, List.map_nil] at hr
    obtain ⟨_, _, rfl, rfl, rfl, rfl⟩ := hr
    obtain ⟨_, rows, hrl, hR, _⟩ := h5
    obtain ⟨ad, cap, he⟩ := Kd.R_slice1 hR (by rw [hrl]; simp)
    obtain ⟨rfl, _⟩ : F2 = some ad ∧ True := by simp at he; exact ⟨he.1, trivial⟩
    obtain ⟨g, rfl⟩ := Kd.R_head hR
    obtain ⟨ad', A3, c3, hA, n0, n1, n2, n3, l3, _⟩ := at_T33 g5 (0 : Int) (by omega) (by simp)
    cases hA
    simp only [Int.toNat_zero, Nat.zero_mul, add_plain] at n0 n1 n2 n3
    exact ⟨rfl, by decide, rfl, rfl, g, 0, k2, .slice A3 0 c3, rfl, trivial, n0, n1, n2, n3, ⟨_, _, _, rfl⟩, rfl, hc0, rfl, rfl, _, _, rfl⟩

end Go.Proofs.Ytgcjfobmccoibaa.Gr
