/- NamesApart: All tells the table as it was, as often as it is gone over; a copy and its origin do not hear of one another. What is asked: how the lists of texts are read. -/
import Derived.Test.YtgcjfobmccoibaaNmG
set_option linter.unusedSimpArgs false
set_option linter.unusedVariables false
namespace Go.Proofs.Ytgcjfobmccoibaa.Nm
open Go.RowKit Go.Shelf Go.Proofs.YtgcjfobmccoibaaW.PrintWords Go.Proofs.YtgcjfobmccoibaaW.PrintLast Go.Proofs.YtgcjfobmccoibaaW.PrintMore

attribute [local go_sem] Oper.semAt_some

set_option maxRecDepth 100000 in
set_option maxHeartbeats 2000000 in
theorem apart_calls (w : World) (A : Option Addr) (c : Nat) (list : List ByteArray) (A' : Option Addr) (c' : Nat) (more : List ByteArray) (stop : Int)
    (hc : Kd.C Kd.string w A list.length list) (hc' : Kd.C Kd.string w A' more.length more) (hl : list.length ≤ 9223372036854775807) (hl' : more.length ≤ 9223372036854775807) :
    Calls Try.prog 7 #[.slice A list.length c, .slice A' more.length c', .int .i64 stop] w fun e w' => e = .returned (.bool true) ∧ Below w.heap.size w w' := by
  have hfn : ∀ (x : Nat) (W : World), (binOp .eql 59 (.func (.func 65) #[] #[.pointer (some ⟨x, 0, none⟩)]) .nilFunc).run Try.prog W = .ok (.bool false) W := fun x W => by kernel_rfl
  obtain ⟨i0, hi, hz0, hz1, hz2⟩ := info_parts info9
  by_cases h4 : list.length ≤ 400 ∧ more.length ≤ 400
  · obtain ⟨h41, h42⟩ := h4
    have h4a : decide (400 < list.length) = false := by simp; omega
    have h4b : decide (400 < (list.length : Int)) = false := by simp; omega
    have h4c : decide (400 < more.length) = false := by simp; omega
    have h4d : decide (400 < (more.length : Int)) = false := by simp; omega
    have HC := Aside0.mk hc
    have HC' := Aside0.mk hc'
    clear hc hc'
    refine (callsIn_wide (n := 3)).1 ?_
    refine callsIn_of_wp_marks Try.func7 rfl (by trivial) ?_ rfl
    simp only [Try.ntmps7, List.size_toArray, List.length_cons, List.length_nil, Nat.reduceAdd, Nat.reduceSub, Array.replicate_succ, Array.replicate_zero, List.push_toArray, List.append_toArray, List.nil_append, List.cons_append]
    refine wpIn_wide.2 ?_
    go_wp2_with fail
    refine (lives_calls _).mono ?_
    rintro e w1 ⟨rfl, hB1⟩
    go_wp2_with fail
    refine (new_calls _).mono ?_
    rintro e w2 ⟨p, rfl, hT0, hB0⟩
    have HS : Aside0 (T1 w p [] w2) := ⟨⟨below_then hB1 hB1.size hB0, _, Tbl.lower hT0 hB1.size⟩⟩
    clear hB1 hB0 hT0
    go_wp2_with fail
    go_loopw [43] (fun i wr => ∃ k : Nat, k ≤ list.length ∧ i = .int .i64 (k : Int) ∧ Aside0 (T1 w p (puts list k) wr)) (fun i _ => list.length - (intOf i).toNat)
    case atStart => exact ⟨0, Nat.zero_le _, rfl, HS⟩
    case round =>
      clear HS
      obtain ⟨k, hk, rfl, HT⟩ := hrel
      by_cases hlt : k < list.length
      · obtain ⟨ad, cc, rfl, hcl, hK, hcc⟩ := Kd.C_get (Kd.C_below HC.out HT.out.1) ByteArray.empty (k : Int) (by omega) (by omega)
        have hK' : cc = [.string (list.getD k ByteArray.empty)] := hK
        subst hK'
        have hx : wr.cell? (ad.add k) = some (.string (list.getD k ByteArray.empty)) := by
          have := hcc 0 _ rfl
          simpa [Kd.string, Kd.scalar] using this
        clear hK hcl hcc
        have HP := Aside0.mk (puts_succ list hlt)
        have HLE := Aside0.mk (puts_le list k)
        generalize list.getD k ByteArray.empty = t at hx HP
        go_wp2_with fail
        refine (t1_put HT.out HLE.out t).mono ?_
        rintro e w3 ⟨n, ev, rfl, hT3⟩
        rw [← HP.out] at hT3
        have HT3 := Aside0.mk hT3
        clear HT hT3
        go_wp2_with fail
        go_roundw
        case rel => exact ⟨k + 1, by omega, by go_num, HT3⟩
        case measure => simp [intOf]; omega
      · obtain rfl : k = list.length := by omega
        clear hlt hk
        obtain ⟨hB, ok, hT⟩ := HT.out
        clear HT
        have hle : (puts list list.length).length ≤ 400 := Nat.le_trans (puts_len _ _) h41
        have hmem : ∀ s, goodB s = true → s ∉ puts list list.length → s ∉ list ∨ True := fun _ _ _ => .inr trivial
        clear hmem
        generalize puts list list.length = M at *
        have HB := Aside0.mk hB
        have HT := Aside0.mk hT.bound
        clear hB hT
        go_wp2_with fail
        refine (len_calls HT.out).mono ?_
        rintro e w3 ⟨rfl, rfl⟩
        go_wp2_with fail
        refine (told_calls _ _ _ (some p) M HT.out (by omega) (-1)).mono ?_
        rintro e w4 ⟨v4, rfl, hR4, hB4⟩
        have hcut : cut (-1) M = M := by unfold cut; rw [if_neg (by decide)]
        rw [hcut] at hR4
        obtain ⟨A4, c4, rfl⟩ := Kd.R_slice hR4
        go_wp2_with fail
        refine (all_calls _ _ _ (some p) M (Tbl.below HT.out hB4) (by omega)).mono ?_
        rintro e w5 ⟨rfl, hS5, hB5⟩
        go_wp2_with fail
        refine (copy_calls (Tbl.below (Tbl.below HT.out hB4) hB5) (by omega)).mono ?_
        rintro e w6 ⟨q, rfl, hT6, hB6⟩
        have HA : Aside0 (Ap w wr.heap.size w4.heap.size w5.heap.size w6.heap.size p q (.slice A4 M.length c4) M M w6) :=
          ⟨ap_start HB.out HT.out hR4 hB4 hS5 hB5 hT6 hB6⟩
        have e1 : ((M.length : Int) != (M.length : Int)) = false := by simp
        clear hR4 hB4 hS5 hB5 hT6 hB6 hcut
        have HN := Aside0.mk HB.out.size
        generalize wr.heap.size = n1 at *
        generalize w4.heap.size = n2 at *
        generalize w5.heap.size = n3 at *
        generalize w6.heap.size = n4 at *
        clear HT HB
        go_wp2_with fail
        go_loopw [80] (fun i wr => ∃ k : Nat, k ≤ more.length ∧ i = .int .i64 (k : Int) ∧ Aside0 (Ap w n1 n2 n3 n4 p q (.slice A4 M.length c4) (putsOn M more k) M wr)) (fun i _ => more.length - (intOf i).toNat)
        case atStart => exact ⟨0, Nat.zero_le _, rfl, HA⟩
        case round =>
          clear HA
          obtain ⟨k, hk, rfl, HA⟩ := hrel
          by_cases hlt : k < more.length
          · obtain ⟨ad, cc, rfl, hcl, hK, hcc⟩ := Kd.C_get (Kd.C_below HC'.out HA.out.bel) ByteArray.empty (k : Int) (by omega) (by omega)
            have hK' : cc = [.string (more.getD k ByteArray.empty)] := hK
            subst hK'
            have hx : wr.cell? (ad.add k) = some (.string (more.getD k ByteArray.empty)) := by
              have := hcc 0 _ rfl
              simpa [Kd.string, Kd.scalar] using this
            clear hK hcl hcc
            have HP := Aside0.mk (putsOn_succ M more hlt)
            have HLE := Aside0.mk (putsOn_le (show M.length ≤ 1024 by omega) more k)
            generalize more.getD k ByteArray.empty = t at hx HP
            go_wp2_with fail
            refine (ap_put HA.out HLE.out t).mono ?_
            rintro e w3 ⟨n, ev, rfl, hT3⟩
            rw [← HP.out] at hT3
            have HT3 := Aside0.mk hT3
            clear HA hT3
            go_wp2_with fail
            go_roundw
            case rel => exact ⟨k + 1, by omega, by go_num, HT3⟩
            case measure => simp [intOf]; omega
          · obtain rfl : k = more.length := by omega
            clear hlt hk
            obtain ⟨r, hr⟩ := putsOn_ext M more more.length
            rw [hr] at HA
            clear hr
            go_wp2_with fail
            refine wp_loop_rounds 3 ?_
            rw [rounds_succ]
            go_wp2_with fail
            have hA := HA.out
            have hlb : n4 ≤ wr.heap.size := hA.h4
            have hG0 := got_start wr
            have hSq : Seq ((wr.alloc (.cells #[] 9)).alloc (.cells #[.slice (some ⟨wr.heap.size, 0, none⟩) 0 0] 25)) n2 n3 M := hA.seq.below hG0.2
            have hn3 := hA.h34
            have hn2 := hA.h23
            clear hA
            refine (wpIn_wide (n := 3)).1 ?_
            refine' wpIn_rangeFunc_ownG rfl (by omega) (gf := 65) (lb := #[.pointer (some ⟨n2, 0, none⟩)]) rfl (by trivial) (enters_of Try.func65 (by kernel_rfl) rfl)
              (all_stops Fence.wide _ trivial rfl (by omega) _ n2 n3 M (by omega) hSq) KpS.trans (KpS.put (fun k hk => by simp; omega)) (Below.refl _ _) (fun _ => rfl)
              (GotAt wr) (fun _ _ _ => False) (gotAt_own wr (by simp; omega)) (fun _ _ _ _ _ hs _ _ => hs) hG0 _ ?assign ?body ?done ?stop
            case assign =>
              intro l x W K hK
              gi_wp2
              exact hK
            case body =>
              rintro l pre x W ⟨⟨v, hv, hrow⟩, hB⟩ hlt
              have hc0 := hv.cell
              obtain ⟨A9, c9, rfl⟩ : ∃ A c, v = .slice A pre.length c := by
                rcases hrow.2 with ⟨rfl, h0⟩ | ⟨g, cap, cur, rfl, _⟩
                · exact ⟨_, _, by rw [h0]⟩
                · exact ⟨_, _, rfl⟩
              gi_wp2_with (gi_at_builtin; go_must (refine wpListIn_append_own_at _ rfl (.tmp 96) (.tmp 98) 25 rfl wr.heap.size 9 i0 (.string ⟨#[]⟩) 1 16 Try.underlying25 hi hz0 hz1 hz2 rfl (by decide) (.slice A9 pre.length c9) pre.length _ rfl (hrow.alloc _) ⟨W.heap.size, 0, none⟩ 1 1 [.string x.2] rfl rfl (cell_one_new _ _ _) (by simp [Value.oneCell']) (by simp only [maxLen]; omega) (by omega) (by have := hB.size; simp; omega) ?_; intro v' w1 hown' hgrow _ hat; obtain ⟨g', cap', rfl⟩ := ownsRow_succ hown'; obtain ⟨hv1, hv2, hr2, hk2, hb2⟩ := hv.appended (by decide) hrow hB.size (by omega) hown' hgrow; have hcc1 := hv1.cell; have hff1 := hv1.frozen))
              exact ⟨hk2.from _, KpS.of_below hb2 (fun k hk => by omega), ⟨_, hv2, by simpa using hr2⟩, hB.trans hb2⟩
            case stop =>
              rintro D c pre W _ _ h _
              exact h.elim
            case done =>
              rintro Da ys Wa hD rfl hG hK
              obtain ⟨A9, c9, hcl, hle9, hC9⟩ := got_end hG
              have HA5 := Aside0.mk (HA.out.below hG.2)
              have HG9 := Aside0.mk (And.intro hK hG.2)
              have HC9 := Aside0.mk hC9
              have HDa : Aside0 (wr.heap.size < Da) := ⟨by simp at hD; omega⟩
              clear hG hK hC9 hD hG0 hSq HA
              go_wp2_with fail
              refine (same_calls A9 c9 A4 c4 M _ HC9.out hle9 (Kd.R_reads' HA5.out.row).2.2 (Kd.R_reads' HA5.out.row).2.1 (by omega)).mono ?_
              clear HC9
              rintro e w7a ⟨rfl, hd7⟩
              have HAa := Aside0.mk (HA5.out.below hd7.below)
              have HKa := Aside0.mk ((hd7.below.block _ (blk_lt HG9.out.1)).trans HG9.out.1)
              have HLa := Aside0.mk (blk_lt HKa.out)
              have HNa : Aside0 (n4 ≤ Da) := ⟨by have := HDa.out; omega⟩
              clear hd7 HA5 HG9
              go_wp2_with fail
              rw [rounds_succ]
              go_wp2_with fail
              have hA := HAa.out
              have hlb : n4 ≤ w7a.heap.size := hA.h4
              have hG0 := got_start w7a
              have hSq : Seq ((w7a.alloc (.cells #[] 9)).alloc (.cells #[.slice (some ⟨w7a.heap.size, 0, none⟩) 0 0] 25)) n2 n3 M := hA.seq.below hG0.2
              have hn3 := hA.h34
              have hn2 := hA.h23
              clear hA
              refine (wpIn_wide (n := 3)).1 ?_
              refine' wpIn_rangeFunc_ownG rfl (by omega) (gf := 65) (lb := #[.pointer (some ⟨n2, 0, none⟩)]) rfl (by trivial) (enters_of Try.func65 (by kernel_rfl) rfl)
                (all_stops Fence.wide _ trivial rfl (by omega) _ n2 n3 M (by omega) hSq) KpS.trans (KpS.put (fun k hk => by simp; omega)) (Below.refl _ _) (fun _ => rfl)
                (GotAt w7a) (fun _ _ _ => False) (gotAt_own w7a (by simp; omega)) (fun _ _ _ _ _ hs _ _ => hs) hG0 _ ?assign ?body ?done ?stop
              case assign =>
                intro l x W K hK
                gi_wp2
                exact hK
              case body =>
                rintro l pre x W ⟨⟨v, hv, hrow⟩, hB⟩ hlt
                have hc0 := hv.cell
                obtain ⟨A9, c9, rfl⟩ : ∃ A c, v = .slice A pre.length c := by
                  rcases hrow.2 with ⟨rfl, h0⟩ | ⟨g, cap, cur, rfl, _⟩
                  · exact ⟨_, _, by rw [h0]⟩
                  · exact ⟨_, _, rfl⟩
                gi_wp2_with (gi_at_builtin; go_must (refine wpListIn_append_own_at _ rfl (.tmp 96) (.tmp 98) 25 rfl w7a.heap.size 9 i0 (.string ⟨#[]⟩) 1 16 Try.underlying25 hi hz0 hz1 hz2 rfl (by decide) (.slice A9 pre.length c9) pre.length _ rfl (hrow.alloc _) ⟨W.heap.size, 0, none⟩ 1 1 [.string x.2] rfl rfl (cell_one_new _ _ _) (by simp [Value.oneCell']) (by simp only [maxLen]; omega) (by omega) (by have := hB.size; simp; omega) ?_; intro v' w1 hown' hgrow _ hat; obtain ⟨g', cap', rfl⟩ := ownsRow_succ hown'; obtain ⟨hv1, hv2, hr2, hk2, hb2⟩ := hv.appended (by decide) hrow hB.size (by omega) hown' hgrow; have hcc1 := hv1.cell; have hff1 := hv1.frozen))
                exact ⟨hk2.from _, KpS.of_below hb2 (fun k hk => by omega), ⟨_, hv2, by simpa using hr2⟩, hB.trans hb2⟩
              case stop =>
                rintro D c pre W _ _ h _
                exact h.elim
              case done =>
                rintro Db ys Wb hD rfl hG hK
                obtain ⟨A9, c9, hcl, hle9, hC9⟩ := got_end hG
                have HA5 := Aside0.mk (HAa.out.below hG.2)
                have HG9 := Aside0.mk (And.intro hK hG.2)
                have HC9 := Aside0.mk hC9
                have HDb : Aside0 (w7a.heap.size < Db) := ⟨by simp at hD; omega⟩
                clear hG hK hC9 hD hG0 hSq HAa
                go_wp2_with fail
                refine (same_calls A9 c9 A4 c4 M _ HC9.out hle9 (Kd.R_reads' HA5.out.row).2.2 (Kd.R_reads' HA5.out.row).2.1 (by omega)).mono ?_
                clear HC9
                rintro e w7b ⟨rfl, hd7⟩
                have HP : Aside0 (Ap2 w n1 n2 n3 n4 p q (.slice A4 M.length c4) (M ++ r) M Da Db w7b) :=
                  ⟨⟨HA5.out.below hd7.below, (hd7.below.block _ (by have := HDa.out; have := HDb.out; have := HG9.out.2.size; have := HLa.out; omega)).trans ((HG9.out.2.block Da HLa.out).trans HKa.out), (hd7.below.block _ (blk_lt HG9.out.1)).trans HG9.out.1, HNa.out, by have := HLa.out; have := HDb.out; omega⟩⟩
                clear hd7 HA5 HG9 HKa
                go_wp2_with fail
                rw [rounds_succ]
                go_wp2_with fail
                refine (told_calls _ _ _ (some q) M HP.out.ap.cpy (by omega) stop).mono ?_
                rintro e w8 ⟨v8, rfl, hR8, hB8⟩
                have HP8 := Aside0.mk (HP.out.below hB8)
                clear HP hB8
                obtain ⟨A8, c8, rfl⟩ := Kd.R_slice hR8
                clear hR8
                have hcl8 : (cut stop M).length = if 1 ≤ stop then min stop.toNat M.length else M.length := by unfold cut; split <;> simp
                generalize (cut stop M).length = m at *
                rcases Int.lt_or_le 0 stop with h1s | h1s
                · rcases Int.lt_or_le (M.length : Int) stop with h2s | h2s
                  · have hm : m = M.length := by rw [hcl8, if_pos (by omega)]; omega
                    have f1 : decide (0 < stop) = true := by simp; omega
                    have f2 : decide (stop ≤ 0) = false := by simp; omega
                    have f3 : ((M.length : Int) != (M.length : Int)) = false := by simp
                    subst hm
                    clear hcl8
                    go_wp2_with fail
                    refine (len_calls HP8.out.ap.cpy).mono ?_
                    rintro e w9 ⟨rfl, rfl⟩
                    go_wp2_with fail
                    refine (ap2_put HP8.out HN.out (by omega) _).mono ?_
                    rintro e wA ⟨ev, rfl, hE, h3⟩
                    obtain ⟨b0, hb0⟩ : ∃ b0, (idx anew (M ++ r)).isSome = b0 := ⟨_, rfl⟩
                    have HEV := Aside0.mk (apart_new hb0 hle hE)
                    have H3 := Aside0.mk h3
                    clear HP8 hE h3
                    go_wp2_with fail
                    refine (find_calls H3.out.2.1.choose_spec _).mono ?_
                    rw [show (⟨#[97, 45, 110, 101, 119, 45, 111, 110, 101]⟩ : ByteArray) = anew from rfl, hb0]
                    rintro e wA ⟨rfl, rfl⟩
                    clear hb0
                    go_wp2_with fail
                    have HI : b0 = true → b0 = true := fun h => h
                    go_loopw [25, 152] (fun b i wr => ∃ (k : Nat) (bb : Bool), k ≤ more.length ∧ i = .int .i64 (k : Int) ∧ b = .bool bb ∧ (b0 = true → bb = true) ∧ Aside0 (Ap3 w p Da Db (M ++ r) wr)) (fun _ i _ => more.length - (intOf i).toNat)
                    case atStart => exact ⟨0, _, Nat.zero_le _, rfl, rfl, HI, H3⟩
                    case round =>
                      clear HI H3
                      obtain ⟨k, bb, hk, rfl, rfl, HI, H3⟩ := hrel
                      have HI := Aside0.mk HI
                      by_cases hlt : k < more.length
                      · obtain ⟨ad, cc, rfl, hcl, hK, hcc⟩ := Kd.C_get (Kd.C_below HC'.out H3.out.1) ByteArray.empty (k : Int) (by omega) (by omega)
                        have hK' : cc = [.string (more.getD k ByteArray.empty)] := hK
                        subst hK'
                        have hx : wr.cell? (ad.add k) = some (.string (more.getD k ByteArray.empty)) := by
                          have := hcc 0 _ rfl
                          simpa [Kd.string, Kd.scalar] using this
                        clear hK hcl hcc
                        generalize more.getD k ByteArray.empty = t at hx
                        cases bb with
                        | true =>
                          go_wp2_with fail
                          go_roundw
                          case rel => exact ⟨k + 1, true, by omega, by go_num, rfl, fun _ => rfl, H3⟩
                          case measure => simp [intOf]; omega
                        | false =>
                          go_wp2_with fail
                          go_roundw
                          case rel => exact ⟨k + 1, _, by omega, by go_num, rfl, fun h => (by have := HI.out h; cases this), H3⟩
                          case measure => simp [intOf]; omega
                      · obtain rfl : k = more.length := by omega
                        clear hlt hk
                        have HI := HI.out
                        go_wp2_with fail
                        go_loopw [25, 164] (fun b i wr => ∃ (k : Nat) (bb : Bool), k ≤ list.length ∧ i = .int .i64 (k : Int) ∧ b = .bool bb ∧ (b0 = true → bb = true) ∧ Aside0 (Ap3 w p Da Db (M ++ r) wr)) (fun _ i _ => list.length - (intOf i).toNat)
                        case atStart => exact ⟨0, _, Nat.zero_le _, rfl, rfl, HI, H3⟩
                        case round =>
                          clear HI H3
                          obtain ⟨k, bb, hk, rfl, rfl, HI, H3⟩ := hrel
                          have HI := Aside0.mk HI
                          by_cases hlt : k < list.length
                          · obtain ⟨ad, cc, rfl, hcl, hK, hcc⟩ := Kd.C_get (Kd.C_below HC.out H3.out.1) ByteArray.empty (k : Int) (by omega) (by omega)
                            have hK' : cc = [.string (list.getD k ByteArray.empty)] := hK
                            subst hK'
                            have hx : wr.cell? (ad.add k) = some (.string (list.getD k ByteArray.empty)) := by
                              have := hcc 0 _ rfl
                              simpa [Kd.string, Kd.scalar] using this
                            clear hK hcl hcc
                            generalize list.getD k ByteArray.empty = t at hx
                            cases bb with
                            | true =>
                              go_wp2_with fail
                              go_roundw
                              case rel => exact ⟨k + 1, true, by omega, by go_num, rfl, fun _ => rfl, H3⟩
                              case measure => simp [intOf]; omega
                            | false =>
                              go_wp2_with fail
                              go_roundw
                              case rel => exact ⟨k + 1, _, by omega, by go_num, rfl, fun h => (by have := HI.out h; cases this), H3⟩
                              case measure => simp [intOf]; omega
                          · obtain rfl : k = list.length := by omega
                            clear hlt hk
                            have HI := HI.out
                            cases bb with
                            | true =>
                              go_wp2_with fail
                              exact apart_ret H3.out rfl
                            | false =>
                              have hb0 : b0 = false := by cases b0 with
                                | true => exact absurd (HI rfl) (by decide)
                                | false => rfl
                              obtain ⟨rfl, hkn⟩ := HEV.out hb0
                              clear HEV HI
                              have g1 : ((putN M anew : Int) == (M.length : Int)) = true := by rw [hkn]; simp
                              clear hkn
                              have g2 : decide ((M.length : Int) ≤ ((M ++ r).length : Int)) = true := by simp; omega
                              have g3 : decide (M.length ≤ (M ++ r).length) = true := by simp
                              go_wp2_with fail
                              refine (len_calls H3.out.2.1.choose_spec).mono ?_
                              generalize (M ++ r).length = ml at *
                              rintro e wB ⟨rfl, rfl⟩
                              go_wp2_with fail
                              exact apart_ret H3.out rfl
                  · have hm : (m : Int) = stop := by rw [hcl8, if_pos (by omega)]; omega
                    have f1 : decide (0 < stop) = true := by simp; omega
                    have f2 : decide (stop ≤ 0) = false := by simp; omega
                    have f3 : ((m : Int) != (m : Int)) = false := by simp
                    subst hm
                    clear hcl8
                    go_wp2_with fail
                    refine (len_calls HP8.out.ap.cpy).mono ?_
                    rintro e w9 ⟨rfl, rfl⟩
                    go_wp2_with fail
                    refine (ap2_put HP8.out HN.out (by omega) _).mono ?_
                    rintro e wA ⟨ev, rfl, hE, h3⟩
                    obtain ⟨b0, hb0⟩ : ∃ b0, (idx anew (M ++ r)).isSome = b0 := ⟨_, rfl⟩
                    have HEV := Aside0.mk (apart_new hb0 hle hE)
                    have H3 := Aside0.mk h3
                    clear HP8 hE h3
                    go_wp2_with fail
                    refine (find_calls H3.out.2.1.choose_spec _).mono ?_
                    rw [show (⟨#[97, 45, 110, 101, 119, 45, 111, 110, 101]⟩ : ByteArray) = anew from rfl, hb0]
                    rintro e wA ⟨rfl, rfl⟩
                    clear hb0
                    go_wp2_with fail
                    have HI : b0 = true → b0 = true := fun h => h
                    go_loopw [25, 152] (fun b i wr => ∃ (k : Nat) (bb : Bool), k ≤ more.length ∧ i = .int .i64 (k : Int) ∧ b = .bool bb ∧ (b0 = true → bb = true) ∧ Aside0 (Ap3 w p Da Db (M ++ r) wr)) (fun _ i _ => more.length - (intOf i).toNat)
                    case atStart => exact ⟨0, _, Nat.zero_le _, rfl, rfl, HI, H3⟩
                    case round =>
                      clear HI H3
                      obtain ⟨k, bb, hk, rfl, rfl, HI, H3⟩ := hrel
                      have HI := Aside0.mk HI
                      by_cases hlt : k < more.length
                      · obtain ⟨ad, cc, rfl, hcl, hK, hcc⟩ := Kd.C_get (Kd.C_below HC'.out H3.out.1) ByteArray.empty (k : Int) (by omega) (by omega)
                        have hK' : cc = [.string (more.getD k ByteArray.empty)] := hK
                        subst hK'
                        have hx : wr.cell? (ad.add k) = some (.string (more.getD k ByteArray.empty)) := by
                          have := hcc 0 _ rfl
                          simpa [Kd.string, Kd.scalar] using this
                        clear hK hcl hcc
                        generalize more.getD k ByteArray.empty = t at hx
                        cases bb with
                        | true =>
                          go_wp2_with fail
                          go_roundw
                          case rel => exact ⟨k + 1, true, by omega, by go_num, rfl, fun _ => rfl, H3⟩
                          case measure => simp [intOf]; omega
                        | false =>
                          go_wp2_with fail
                          go_roundw
                          case rel => exact ⟨k + 1, _, by omega, by go_num, rfl, fun h => (by have := HI.out h; cases this), H3⟩
                          case measure => simp [intOf]; omega
                      · obtain rfl : k = more.length := by omega
                        clear hlt hk
                        have HI := HI.out
                        go_wp2_with fail
                        go_loopw [25, 164] (fun b i wr => ∃ (k : Nat) (bb : Bool), k ≤ list.length ∧ i = .int .i64 (k : Int) ∧ b = .bool bb ∧ (b0 = true → bb = true) ∧ Aside0 (Ap3 w p Da Db (M ++ r) wr)) (fun _ i _ => list.length - (intOf i).toNat)
                        case atStart => exact ⟨0, _, Nat.zero_le _, rfl, rfl, HI, H3⟩
                        case round =>
                          clear HI H3
                          obtain ⟨k, bb, hk, rfl, rfl, HI, H3⟩ := hrel
                          have HI := Aside0.mk HI
                          by_cases hlt : k < list.length
                          · obtain ⟨ad, cc, rfl, hcl, hK, hcc⟩ := Kd.C_get (Kd.C_below HC.out H3.out.1) ByteArray.empty (k : Int) (by omega) (by omega)
                            have hK' : cc = [.string (list.getD k ByteArray.empty)] := hK
                            subst hK'
                            have hx : wr.cell? (ad.add k) = some (.string (list.getD k ByteArray.empty)) := by
                              have := hcc 0 _ rfl
                              simpa [Kd.string, Kd.scalar] using this
                            clear hK hcl hcc
                            generalize list.getD k ByteArray.empty = t at hx
                            cases bb with
                            | true =>
                              go_wp2_with fail
                              go_roundw
                              case rel => exact ⟨k + 1, true, by omega, by go_num, rfl, fun _ => rfl, H3⟩
                              case measure => simp [intOf]; omega
                            | false =>
                              go_wp2_with fail
                              go_roundw
                              case rel => exact ⟨k + 1, _, by omega, by go_num, rfl, fun h => (by have := HI.out h; cases this), H3⟩
                              case measure => simp [intOf]; omega
                          · obtain rfl : k = list.length := by omega
                            clear hlt hk
                            have HI := HI.out
                            cases bb with
                            | true =>
                              go_wp2_with fail
                              exact apart_ret H3.out rfl
                            | false =>
                              have hb0 : b0 = false := by cases b0 with
                                | true => exact absurd (HI rfl) (by decide)
                                | false => rfl
                              obtain ⟨rfl, hkn⟩ := HEV.out hb0
                              clear HEV HI
                              have g1 : ((putN M anew : Int) == (M.length : Int)) = true := by rw [hkn]; simp
                              clear hkn
                              have g2 : decide ((M.length : Int) ≤ ((M ++ r).length : Int)) = true := by simp; omega
                              have g3 : decide (M.length ≤ (M ++ r).length) = true := by simp
                              go_wp2_with fail
                              refine (len_calls H3.out.2.1.choose_spec).mono ?_
                              generalize (M ++ r).length = ml at *
                              rintro e wB ⟨rfl, rfl⟩
                              go_wp2_with fail
                              exact apart_ret H3.out rfl
                · have hm : m = M.length := by rw [hcl8, if_neg (by omega)]
                  have f1 : decide (0 < stop) = false := by simp; omega
                  have f2 : decide (stop ≤ 0) = true := by simp; omega
                  have f3 : ((M.length : Int) != (M.length : Int)) = false := by simp
                  subst hm
                  clear hcl8
                  go_wp2_with fail
                  refine (len_calls HP8.out.ap.cpy).mono ?_
                  rintro e w9 ⟨rfl, rfl⟩
                  go_wp2_with fail
                  refine (ap2_put HP8.out HN.out (by omega) _).mono ?_
                  rintro e wA ⟨ev, rfl, hE, h3⟩
                  obtain ⟨b0, hb0⟩ : ∃ b0, (idx anew (M ++ r)).isSome = b0 := ⟨_, rfl⟩
                  have HEV := Aside0.mk (apart_new hb0 hle hE)
                  have H3 := Aside0.mk h3
                  clear HP8 hE h3
                  go_wp2_with fail
                  refine (find_calls H3.out.2.1.choose_spec _).mono ?_
                  rw [show (⟨#[97, 45, 110, 101, 119, 45, 111, 110, 101]⟩ : ByteArray) = anew from rfl, hb0]
                  rintro e wA ⟨rfl, rfl⟩
                  clear hb0
                  go_wp2_with fail
                  have HI : b0 = true → b0 = true := fun h => h
                  go_loopw [25, 152] (fun b i wr => ∃ (k : Nat) (bb : Bool), k ≤ more.length ∧ i = .int .i64 (k : Int) ∧ b = .bool bb ∧ (b0 = true → bb = true) ∧ Aside0 (Ap3 w p Da Db (M ++ r) wr)) (fun _ i _ => more.length - (intOf i).toNat)
                  case atStart => exact ⟨0, _, Nat.zero_le _, rfl, rfl, HI, H3⟩
                  case round =>
                    clear HI H3
                    obtain ⟨k, bb, hk, rfl, rfl, HI, H3⟩ := hrel
                    have HI := Aside0.mk HI
                    by_cases hlt : k < more.length
                    · obtain ⟨ad, cc, rfl, hcl, hK, hcc⟩ := Kd.C_get (Kd.C_below HC'.out H3.out.1) ByteArray.empty (k : Int) (by omega) (by omega)
                      have hK' : cc = [.string (more.getD k ByteArray.empty)] := hK
                      subst hK'
                      have hx : wr.cell? (ad.add k) = some (.string (more.getD k ByteArray.empty)) := by
                        have := hcc 0 _ rfl
                        simpa [Kd.string, Kd.scalar] using this
                      clear hK hcl hcc
                      generalize more.getD k ByteArray.empty = t at hx
                      cases bb with
                      | true =>
                        go_wp2_with fail
                        go_roundw
                        case rel => exact ⟨k + 1, true, by omega, by go_num, rfl, fun _ => rfl, H3⟩
                        case measure => simp [intOf]; omega
                      | false =>
                        go_wp2_with fail
                        go_roundw
                        case rel => exact ⟨k + 1, _, by omega, by go_num, rfl, fun h => (by have := HI.out h; cases this), H3⟩
                        case measure => simp [intOf]; omega
                    · obtain rfl : k = more.length := by omega
                      clear hlt hk
                      have HI := HI.out
                      go_wp2_with fail
                      go_loopw [25, 164] (fun b i wr => ∃ (k : Nat) (bb : Bool), k ≤ list.length ∧ i = .int .i64 (k : Int) ∧ b = .bool bb ∧ (b0 = true → bb = true) ∧ Aside0 (Ap3 w p Da Db (M ++ r) wr)) (fun _ i _ => list.length - (intOf i).toNat)
                      case atStart => exact ⟨0, _, Nat.zero_le _, rfl, rfl, HI, H3⟩
                      case round =>
                        clear HI H3
                        obtain ⟨k, bb, hk, rfl, rfl, HI, H3⟩ := hrel
                        have HI := Aside0.mk HI
                        by_cases hlt : k < list.length
                        · obtain ⟨ad, cc, rfl, hcl, hK, hcc⟩ := Kd.C_get (Kd.C_below HC.out H3.out.1) ByteArray.empty (k : Int) (by omega) (by omega)
                          have hK' : cc = [.string (list.getD k ByteArray.empty)] := hK
                          subst hK'
                          have hx : wr.cell? (ad.add k) = some (.string (list.getD k ByteArray.empty)) := by
                            have := hcc 0 _ rfl
                            simpa [Kd.string, Kd.scalar] using this
                          clear hK hcl hcc
                          generalize list.getD k ByteArray.empty = t at hx
                          cases bb with
                          | true =>
                            go_wp2_with fail
                            go_roundw
                            case rel => exact ⟨k + 1, true, by omega, by go_num, rfl, fun _ => rfl, H3⟩
                            case measure => simp [intOf]; omega
                          | false =>
                            go_wp2_with fail
                            go_roundw
                            case rel => exact ⟨k + 1, _, by omega, by go_num, rfl, fun h => (by have := HI.out h; cases this), H3⟩
                            case measure => simp [intOf]; omega
                        · obtain rfl : k = list.length := by omega
                          clear hlt hk
                          have HI := HI.out
                          cases bb with
                          | true =>
                            go_wp2_with fail
                            exact apart_ret H3.out rfl
                          | false =>
                            have hb0 : b0 = false := by cases b0 with
                              | true => exact absurd (HI rfl) (by decide)
                              | false => rfl
                            obtain ⟨rfl, hkn⟩ := HEV.out hb0
                            clear HEV HI
                            have g1 : ((putN M anew : Int) == (M.length : Int)) = true := by rw [hkn]; simp
                            clear hkn
                            have g2 : decide ((M.length : Int) ≤ ((M ++ r).length : Int)) = true := by simp; omega
                            have g3 : decide (M.length ≤ (M ++ r).length) = true := by simp
                            go_wp2_with fail
                            refine (len_calls H3.out.2.1.choose_spec).mono ?_
                            generalize (M ++ r).length = ml at *
                            rintro e wB ⟨rfl, rfl⟩
                            go_wp2_with fail
                            exact apart_ret H3.out rfl
  · have fin : ∀ {w1 : World}, Below w.heap.size w w1 → Below w.heap.size w w1 := fun h => h
    by_cases h41 : list.length ≤ 400
    · have h4a : decide (400 < list.length) = false := by simp; omega
      have h4b : decide (400 < (list.length : Int)) = false := by simp; omega
      have h4c : decide (400 < more.length) = true := by simp; omega
      have h4d : decide (400 < (more.length : Int)) = true := by simp; omega
      clear hc hc'
      go_enter Try.func7, Try.ntmps7
      go_wp2_with fail
      refine (lives_calls _).mono ?_
      rintro e w1 ⟨rfl, hB1⟩
      go_wp2_with fail
      go_ret
      exact ⟨rfl, hB1⟩
    · have h4a : decide (400 < list.length) = true := by simp; omega
      have h4b : decide (400 < (list.length : Int)) = true := by simp; omega
      clear hc hc'
      go_enter Try.func7, Try.ntmps7
      go_wp2_with fail
      refine (lives_calls _).mono ?_
      rintro e w1 ⟨rfl, hB1⟩
      go_wp2_with fail
      go_ret
      exact ⟨rfl, hB1⟩

end Go.Proofs.Ytgcjfobmccoibaa.Nm
