/- NamesPlays: Put of every name in turn, and all that can be asked behind it. What is asked: how the list of names is read. -/
import Derived.Test.YtgcjfobmccoibaaNmC
import Derived.Test.YtgcjfobmccoibaaPNamesApartx1
set_option linter.unusedSimpArgs false
set_option linter.unusedVariables false
namespace Go.Proofs.Ytgcjfobmccoibaa.Nm
open Go.RowKit Go.Proofs.YtgcjfobmccoibaaW.PrintWords Go.Proofs.YtgcjfobmccoibaaW.PrintLast Go.Proofs.YtgcjfobmccoibaaW.PrintMore

theorem same_loop (L : List ByteArray) (hl : L.length ≤ 9223372036854775806) : ∀ (d k i : Nat), i + d = L.length → d < k → PNamesApart.tendrilref03_Same.l0 k L L (i : Int) = some true
  | 0, k, i, hd, hk => by
    obtain ⟨k, rfl⟩ : ∃ m, k = m + 1 := ⟨k - 1, by omega⟩
    simp only [PNamesApart.tendrilref03_Same.l0]
    rw [if_neg (by omega)]
  | d + 1, k, i, hd, hk => by
    obtain ⟨k, rfl⟩ : ∃ m, k = m + 1 := ⟨k - 1, by omega⟩
    simp only [PNamesApart.tendrilref03_Same.l0]
    rw [if_pos (by omega), if_pos (by omega), if_pos (by omega), if_pos trivial, wrap_one (by omega)]
    exact same_loop L hl d k (i + 1) (by omega) (by omega)
theorem same_calls (A0 : Option Addr) (c0 : Nat) (A1 : Option Addr) (c1 : Nat) (L : List ByteArray) (w : World) (h0 : Kd.C Kd.string w A0 L.length L) (hc0 : L.length ≤ c0) (h1 : Kd.C Kd.string w A1 L.length L) (hc1 : L.length ≤ c1) (hl : L.length ≤ 9223372036854775806) :
    Calls Try.prog 27 #[.slice A0 L.length c0, .slice A1 L.length c1] w fun e w' => e = .returned (.bool true) ∧ Drawn0 w w' := by
  refine PNamesApart.tendrilref03_Same.calls (L.length + 1) A0 c0 L A1 c1 L true w h0 hc0 h1 hc1 ?_
  unfold PNamesApart.tendrilref03_Same.f
  rw [if_pos rfl]
  exact same_loop L hl L.length (L.length + 1) 0 (by omega) (by omega)

theorem putL_le {L : List ByteArray} (s : ByteArray) (h : L.length ≤ 1024) : (putL L s).length ≤ 1024 := by
  unfold putL
  split
  · rename_i h1; simp; omega
  · exact h
/-- What k puts leave. -/
def puts (list : List ByteArray) (k : Nat) : List ByteArray := (list.take k).foldl putL []
theorem puts_succ (list : List ByteArray) {k : Nat} (hk : k < list.length) : puts list (k + 1) = putL (puts list k) (list.getD k ByteArray.empty) := by
  unfold puts
  rw [List.take_succ_eq_append_getElem hk, List.foldl_append]
  simp [hk]
theorem foldl_putL_le : ∀ (l : List ByteArray) (L : List ByteArray), L.length ≤ 1024 → (l.foldl putL L).length ≤ 1024
  | [], _, h => h
  | s :: l, L, h => foldl_putL_le l _ (putL_le s h)
theorem puts_le (list : List ByteArray) (k : Nat) : (puts list k).length ≤ 1024 := foldl_putL_le _ _ (by simp)

set_option maxRecDepth 100000 in
set_option maxHeartbeats 2000000 in
theorem plays_calls (w : World) (A : Option Addr) (c : Nat) (list : List ByteArray) (other : ByteArray) (n : Int) (hc : Kd.C Kd.string w A list.length list) (hl : list.length ≤ 9223372036854775807) :
    Calls Try.prog 5 #[.slice A list.length c, .string other, .int .i64 n] w fun e w' => e = .returned (.bool true) ∧ Below w.heap.size w w' := by
  have eg0 : (goodB other != goodB other) = false := by simp
  by_cases h15 : list.length ≤ 1500
  · have h15b : decide (1500 < list.length) = false := by simp; omega
    have h15c : decide (1500 < (list.length : Int)) = false := by simp; omega
    have HC := Aside0.mk hc
    have HL := Aside0.mk h15
    clear hc
    go_enter Try.func5, Try.ntmps5
    go_wp2_with fail
    refine (lives_calls _).mono ?_
    rintro e w1 ⟨rfl, hB1⟩
    go_wp2_with fail
    refine (good_calls other _).mono ?_
    rintro e w1' ⟨rfl, hd1⟩
    have hB1 := below_then hB1 hB1.size hd1.below
    go_wp2_with fail
    refine (rgood_calls other _).mono ?_
    rintro e w1'' ⟨rfl, hd2⟩
    have hB1 := below_then hB1 hB1.size hd2.below
    generalize hgo : goodB other = go at *
    clear hd1 hd2
    go_wp2_with fail
    refine (new_calls _).mono ?_
    rintro e w2 ⟨p, rfl, hT0, hB0⟩
    have hB := below_then hB1 hB1.size hB0
    have hT := Tbl.lower hT0 hB1.size
    have HS := Aside0.mk (tve_start hB hT)
    clear hB1 hB0 hT0 hB hT
    go_wp2_with fail
    go_loopw [8, 38] (fun v i wr => ∃ (k : Nat) (A : Option Addr) (c : Nat), k ≤ list.length ∧ i = .int .i64 (k : Int) ∧ v = .slice A (puts list k).length c ∧ Aside0 (TVE w p (.slice A (puts list k).length c) (puts list k) (puts list k) .nilIface [] wr)) (fun _ i _ => list.length - (intOf i).toNat)
    case atStart => exact ⟨0, _, _, Nat.zero_le _, rfl, rfl, HS⟩
    case round =>
      clear HS
      obtain ⟨k, A2, c2, hk, rfl, rfl, HT⟩ := hrel
      by_cases hlt : k < list.length
      · obtain ⟨ad, cc, rfl, hcl, hK, hcc⟩ := Kd.C_get (Kd.C_below HC.out HT.out.1) ByteArray.empty (k : Int) (by omega) (by omega)
        have hK' : cc = [.string (list.getD k ByteArray.empty)] := hK
        subst hK'
        have hx : wr.cell? (ad.add k) = some (.string (list.getD k ByteArray.empty)) := by
          have := hcc 0 _ rfl
          simpa [Kd.string, Kd.scalar] using this
        clear hK hcl hcc
        have hps := puts_succ list hlt
        have hle := puts_le list k
        generalize list.getD k ByteArray.empty = t at hx hps
        have HP := Aside0.mk hps
        have HLE := Aside0.mk hle
        clear hps hle
        go_wp2_with fail
        refine (tve_put HT.out HLE.out t).mono ?_
        rintro e w3 ⟨ev, rfl, hT3⟩
        have HT3 := Aside0.mk hT3
        clear HT hT3
        go_wp2_with fail
        refine (tve_rput HT3.out HLE.out t).mono ?_
        obtain ⟨x, hx1⟩ : ∃ x : Nat, x = putN (puts list k) t := ⟨_, rfl⟩
        rw [← hx1]
        obtain ⟨fc, fa, fn, hfv, hfi⟩ := fval_form (puts list k) t
        rw [hfv]
        rintro e w4 ⟨v', rfl, hT4⟩
        rw [← HP.out] at hT4
        have hv4 : ∃ A4 c4, v' = .slice A4 (puts list (k + 1)).length c4 := Kd.R_slice hT4.2.choose_spec.choose_spec.choose_spec.2.2.2.2.1
        obtain ⟨A4, c4, rfl⟩ := hv4
        have HT4 := Aside0.mk hT4
        have HF := Aside0.mk hfi
        clear HT3 hT4 hfi hfv hx1
        have e1 : ((x : Int) != (x : Int)) = false := by simp
        go_wp2_with fail
        refine (tve_is (HT4.out.below (below_alloc (Below.refl _ _) _)) fc fa fn HF.out).mono ?_
        rintro e w5 ⟨rfl, hT5⟩
        have HT5 := Aside0.mk hT5
        clear HT4 hT5
        have e2 : (((puts list (k + 1)).length : Int) != ((puts list (k + 1)).length : Int)) = false := by simp
        go_wp2_with fail
        refine (tve_len HT5.out).mono ?_
        rintro e w6 ⟨rfl, rfl⟩
        go_wp2_with fail
        refine (good_calls t _).mono ?_
        rintro e w6 ⟨rfl, hd6⟩
        have HT6 := Aside0.mk (HT5.out.below hd6.below)
        clear HT5 hd6
        go_wp2_with fail
        refine (rgood_calls t _).mono ?_
        rintro e w7 ⟨rfl, hd7⟩
        have HT7 := Aside0.mk (HT6.out.below hd7.below)
        clear HT6 hd7
        have e3 : (goodB t != goodB t) = false := by simp
        generalize goodB t = gt at *
        go_wp2_with fail
        go_roundw
        case rel => exact ⟨k + 1, _, _, by omega, by go_num, rfl, ⟨HT7.out.noErr⟩⟩
        case measure => simp [intOf]; omega
      · obtain rfl : k = list.length := by omega
        clear hlt hk
        obtain ⟨hB, okT, okV, okE, h1, h2, h3, hT, hR, _⟩ := HT.out
        clear h1 h2 h3 HT
        have hle := puts_le list list.length
        generalize puts list list.length = L at *
        have HB := Aside0.mk hB
        have HT := Aside0.mk hT
        have HR := Aside0.mk hR
        clear hB hT hR
        obtain ⟨i, b, hib⟩ : ∃ (i : Nat) (b : Bool), ((idx other L).getD 0, (idx other L).isSome) = (i, b) := ⟨_, _, rfl⟩
        have hib1 : (idx other L).getD 0 = i := congrArg Prod.fst hib
        have hib2 : (idx other L).isSome = b := congrArg Prod.snd hib
        have e1 : ((i : Int) != (i : Int)) = false := by simp
        have e2 : (b != b) = false := by simp
        go_wp2_with fail
        refine (find_calls HT.out other).mono ?_
        rw [hib1, hib2]
        rintro e w3 ⟨rfl, rfl⟩
        go_wp2_with fail
        refine (rfind_calls _ _ _ L other (Kd.R_reads' HR.out).2.2 (by omega)).mono ?_
        rw [hib1, hib2]
        rintro e w3 ⟨rfl, rfl⟩
        go_wp2_with fail
        by_cases hn : 0 ≤ n ∧ n < (L.length : Int)
        · obtain ⟨m, rfl⟩ := Int.eq_ofNat_of_zero_le hn.1
          have hm : m < L.length := by omega
          obtain ⟨ad, cc, rfl, hcl, hK, hcc⟩ := Kd.C_get (Kd.R_reads' HR.out).2.2 ByteArray.empty (m : Int) (by omega) (by omega)
          have hK' : cc = [.string (L.getD m ByteArray.empty)] := hK
          subst hK'
          have hx : wr.cell? (ad.add m) = some (.string (L.getD m ByteArray.empty)) := by
            have := hcc 0 _ rfl
            simpa [Kd.string, Kd.scalar] using this
          clear hK hcl hcc
          have hnm := name_in HT.out m hm
          generalize L.getD m ByteArray.empty = t at hx hnm
          refine hnm.mono ?_
          rintro e w3 ⟨rfl, rfl⟩
          clear hnm
          have e3 : (t.toList == t.toList) = true := by simp
          go_wp2_with fail
          refine (told_calls _ _ okT (some p) L HT.out (by omega) (-1)).mono ?_
          rintro e w4 ⟨v4, rfl, hR4, hB4⟩
          have hcut : cut (-1) L = L := by unfold cut; rw [if_neg (by decide)]
          rw [hcut] at hR4
          obtain ⟨A4, c4, rfl⟩ := Kd.R_slice hR4
          have HR4 := Aside0.mk hR4
          have HB4 := Aside0.mk hB4
          clear hR4 hB4 hcut
          go_wp2_with fail
          refine (same_calls A4 c4 (some ad) c2 L _ (Kd.R_reads' HR4.out).2.2 (Kd.R_reads' HR4.out).2.1 (Kd.R_reads' (Kd.R_below HR.out HB4.out)).2.2 (Kd.R_reads' HR.out).2.1 (by omega)).mono ?_
          rintro e w5 ⟨rfl, hd5⟩
          go_wp2_with fail
          go_ret
          exact ⟨rfl, below_then (below_then HB.out HB.out.size HB4.out) (Nat.le_trans HB.out.size HB4.out.size) hd5.below⟩
        · refine (name_out HT.out n (by omega)).mono ?_
          rintro e w3 ⟨rfl, rfl⟩
          go_wp2_with fail
          · refine (told_calls _ _ okT (some p) L HT.out (by omega) (-1)).mono ?_
            rintro e w4 ⟨v4, rfl, hR4, hB4⟩
            have hcut : cut (-1) L = L := by unfold cut; rw [if_neg (by decide)]
            rw [hcut] at hR4
            obtain ⟨A4, c4, rfl⟩ := Kd.R_slice hR4
            have HR4 := Aside0.mk hR4
            have HB4 := Aside0.mk hB4
            clear hR4 hB4 hcut
            go_wp2_with fail
            refine (same_calls A4 c4 A2 c2 L _ (Kd.R_reads' HR4.out).2.2 (Kd.R_reads' HR4.out).2.1 (Kd.R_reads' (Kd.R_below HR.out HB4.out)).2.2 (Kd.R_reads' HR.out).2.1 (by omega)).mono ?_
            rintro e w5 ⟨rfl, hd5⟩
            go_wp2_with fail
            go_ret
            exact ⟨rfl, below_then (below_then HB.out HB.out.size HB4.out) (Nat.le_trans HB.out.size HB4.out.size) hd5.below⟩
          · refine (told_calls _ _ okT (some p) L HT.out (by omega) (-1)).mono ?_
            rintro e w4 ⟨v4, rfl, hR4, hB4⟩
            have hcut : cut (-1) L = L := by unfold cut; rw [if_neg (by decide)]
            rw [hcut] at hR4
            obtain ⟨A4, c4, rfl⟩ := Kd.R_slice hR4
            have HR4 := Aside0.mk hR4
            have HB4 := Aside0.mk hB4
            clear hR4 hB4 hcut
            go_wp2_with fail
            refine (same_calls A4 c4 A2 c2 L _ (Kd.R_reads' HR4.out).2.2 (Kd.R_reads' HR4.out).2.1 (Kd.R_reads' (Kd.R_below HR.out HB4.out)).2.2 (Kd.R_reads' HR.out).2.1 (by omega)).mono ?_
            rintro e w5 ⟨rfl, hd5⟩
            go_wp2_with fail
            go_ret
            exact ⟨rfl, below_then (below_then HB.out HB.out.size HB4.out) (Nat.le_trans HB.out.size HB4.out.size) hd5.below⟩
  · have h15b : decide (1500 < list.length) = true := by simp; omega
    have h15c : decide (1500 < (list.length : Int)) = true := by simp; omega
    go_enter Try.func5, Try.ntmps5
    go_wp2_with fail
    refine (lives_calls _).mono ?_
    rintro e w1 ⟨rfl, hB1⟩
    go_wp2_with fail
    refine (good_calls other _).mono ?_
    rintro e w1' ⟨rfl, hd1⟩
    have hB1 := below_then hB1 hB1.size hd1.below
    go_wp2_with fail
    refine (rgood_calls other _).mono ?_
    rintro e w1'' ⟨rfl, hd2⟩
    have hB1 := below_then hB1 hB1.size hd2.below
    go_wp2_with fail
    go_ret
    exact ⟨rfl, hB1⟩

end Go.Proofs.Ytgcjfobmccoibaa.Nm
