/- Is: whether an error is just a chain of faults. No condition but those that each theorem states. -/
import Derived.Test.YtgcjfobmccoibaaNm4
import Derived.Deep.QuietTactic
import Derived.BigQuiet
namespace Go.Proofs.Ytgcjfobmccoibaa.Nm
open Go.RowKit Go.Proofs.YtgcjfobmccoibaaW.PrintWords Go.Proofs.YtgcjfobmccoibaaW.PrintLast Go.Proofs.YtgcjfobmccoibaaW.PrintMore

/-- The four cells of a fault as plain numbers (its code, its place, its name, its causes): they tell this chain. -/
def FIs (w : World) (ok : Nat → Prop) : Int → Int → ByteArray → Value → List (Int × Int × ByteArray) → Prop
  | c, _, _, _, [] => c = 0
  | c, a, n, v, (c', a', n') :: r => c = c' ∧ c ≠ 0 ∧ a = a' ∧ n = n' ∧
    match r with
    | [] => ∃ A k, v = .slice A 0 k
    | (c2, a2, n2) :: r' => ∃ b o k v2, v = .slice (some ⟨b, o, none⟩) 1 k ∧ ok b ∧
      w.cell? ⟨b, o, none⟩ = some (.int .i64 c2) ∧ w.cell? ⟨b, o + 1, none⟩ = some (.int .i64 a2) ∧ w.cell? ⟨b, o + 2, none⟩ = some (.string n2) ∧ w.cell? ⟨b, o + 3, none⟩ = some v2 ∧ (∃ A2 l2 k2, v2 = .slice A2 l2 k2) ∧ FIs w ok c2 a2 n2 v2 ((c2, a2, n2) :: r')

theorem FIs.step {w w1 : World} {ok : Nat → Prop} (hm : ∀ k, ok k → k < w.heap.size → w1.heap[k]? = w.heap[k]?) : ∀ {r : List (Int × Int × ByteArray)} {c a : Int} {n : ByteArray} {v : Value}, FIs w ok c a n v r → FIs w1 ok c a n v r
  | [], _, _, _, _, h => h
  | [(_, _, _)], _, _, _, _, h => h
  | (_, _, _) :: (c2, a2, n2) :: r', _, _, _, _, h => by
    obtain ⟨h1, h2, h3, h4, b, o, k, v2, h5, h6, h7, h8, h9, h10, h11, h12⟩ := h
    have hb : w1.heap[b]? = w.heap[b]? := hm b h6 (World.block_lt_of_cell? w _ h7)
    have hc : ∀ j, w1.cell? ⟨b, j, none⟩ = w.cell? ⟨b, j, none⟩ := fun j => World.cell?_of_block (w := w) hb
    exact ⟨h1, h2, h3, h4, b, o, k, v2, h5, h6, (hc _).trans h7, (hc _).trans h8, (hc _).trans h9, (hc _).trans h10, h11, h12.step hm⟩

theorem bytes_ne {a b : ByteArray} (h : a ≠ b) : (a.toList == b.toList) = false := by
  rw [← beq_toListBytes]
  exact Bool.eq_false_iff.2 fun e => h ((MapKept.bytes_beq a b).1 e)
theorem ta_nil (w : World) : (Instr.typeAssert .nilIface 28 93 true).run Try.prog w = .ok (.tuple #[.pointer none, .bool false]) w := by kernel_rfl
theorem ta_fault (x : Value) (w : World) : (Instr.typeAssert (.iface 93 x) 28 93 true).run Try.prog w = .ok (.tuple #[x, .bool true]) w := by kernel_rfl

theorem is_next {w wr : World} {ok : Nat → Prop} {cv : Value} {re r : List (Int × Int × ByteArray)} {c2 a2 : Int} {n2 : ByteArray} {A2 : Option Addr} {l2 k2 nq : Nat} {x0 x1 x2 x3 : Value} (hok : ∀ k, ok k → k < w.heap.size)
    (HX : wr.heap[w.heap.size]? = some (.cells #[x0, x1, x2, x3] 33 (0, 0))) (HB : Below w.heap.size w wr) (he : IsErr wr ok cv re) (hf : FIs wr ok c2 a2 n2 (.slice A2 l2 k2) r) :
    IsErr (((((wr.drewN nq).setCell ⟨w.heap.size, 0, none⟩ (.int .i64 c2)).setCell ⟨w.heap.size, 1, none⟩ (.int .i64 a2)).setCell ⟨w.heap.size, 2, none⟩ (.string n2)).setCell ⟨w.heap.size, 3, none⟩ (.slice A2 l2 k2)) ok cv re ∧
    FIs (((((wr.drewN nq).setCell ⟨w.heap.size, 0, none⟩ (.int .i64 c2)).setCell ⟨w.heap.size, 1, none⟩ (.int .i64 a2)).setCell ⟨w.heap.size, 2, none⟩ (.string n2)).setCell ⟨w.heap.size, 3, none⟩ (.slice A2 l2 k2)) ok c2 a2 n2 (.slice A2 l2 k2) r ∧
    (((((wr.drewN nq).setCell ⟨w.heap.size, 0, none⟩ (.int .i64 c2)).setCell ⟨w.heap.size, 1, none⟩ (.int .i64 a2)).setCell ⟨w.heap.size, 2, none⟩ (.string n2)).setCell ⟨w.heap.size, 3, none⟩ (.slice A2 l2 k2)).heap[w.heap.size]? = some (.cells #[.int .i64 c2, .int .i64 a2, .string n2, .slice A2 l2 k2] 33 (0, 0)) ∧
    Below w.heap.size w (((((wr.drewN nq).setCell ⟨w.heap.size, 0, none⟩ (.int .i64 c2)).setCell ⟨w.heap.size, 1, none⟩ (.int .i64 a2)).setCell ⟨w.heap.size, 2, none⟩ (.string n2)).setCell ⟨w.heap.size, 3, none⟩ (.slice A2 l2 k2)) ∧
    (∃ A l k, (Value.slice A2 l2 k2) = .slice A l k) := by
  have hm : ∀ k, ok k → k < wr.heap.size → (((((wr.drewN nq).setCell ⟨w.heap.size, 0, none⟩ (.int .i64 c2)).setCell ⟨w.heap.size, 1, none⟩ (.int .i64 a2)).setCell ⟨w.heap.size, 2, none⟩ (.string n2)).setCell ⟨w.heap.size, 3, none⟩ (.slice A2 l2 k2)).heap[k]? = wr.heap[k]? := by
    intro k hk _
    have hne : k ≠ w.heap.size := Nat.ne_of_lt (hok k hk)
    rw [Below.heap_setCell _ _ _ _ hne, Below.heap_setCell _ _ _ _ hne, Below.heap_setCell _ _ _ _ hne, Below.heap_setCell _ _ _ _ hne]
    rfl
  refine ⟨he.step hm, hf.step hm, ?_, ((((pw_below_drewN HB nq).setCell (Nat.le_refl _) _).setCell (Nat.le_refl _) _).setCell (Nat.le_refl _) _).setCell (Nat.le_refl _) _, ⟨_, _, _, rfl⟩⟩
  exact blk_put (blk_put (blk_put (blk_put (blk_drewN HX nq) 0 (.int .i64 c2) rfl) 1 (.int .i64 a2) rfl) 2 (.string n2) rfl) 3 (.slice A2 l2 k2) rfl

set_option maxRecDepth 100000 in
set_option maxHeartbeats 1000000 in
theorem is_try (w : World) (ok : Nat → Prop) (ev : Value) (re r : List (Int × Int × ByteArray)) (c a : Int) (n : ByteArray) (v : Value) (hv : ∃ A2 l2 k2, v = .slice A2 l2 k2) (hok : ∀ k, ok k → k < w.heap.size) (he : IsErr w ok ev re) (hf : FIs w ok c a n v r) :
    Calls Try.prog 19 #[ev, .agg #[.int .i64 c, .int .i64 a, .string n, v]] w fun e w' => e = .returned (.bool (decide (re = r))) ∧ Below w.heap.size w w' := by
  have htn := ta_nil
  have htf := ta_fault
  go_enter Try.func19, Try.ntmps19
  go_wp2
  go_loopg [0] r.length (fun g v0 wr => ∃ ev' re' r' c' a' n' vv, ev' = v0 ∧ g = r'.length ∧ Aside0 (decide (re' = r') = decide (re = r)) ∧ IsErr wr ok ev' re' ∧ FIs wr ok c' a' n' vv r' ∧ wr.heap[w.heap.size]? = some (.cells #[.int .i64 c', .int .i64 a', .string n', vv] 33 (0, 0)) ∧ Below w.heap.size w wr ∧ (∃ A2 l2 k2, vv = .slice A2 l2 k2))
  case atStart => 
    have hb := (Below.refl w.heap.size w).alloc (Nat.le_refl _) (.cells #[.int .i64 c, .int .i64 a, .string n, v] 33)
    exact ⟨ev, re, r, c, a, n, v, rfl, rfl, ⟨rfl⟩, he.below hb, hf.step (fun k _ hk => hb.block k hk), blk_last w _, hb, hv⟩
  case round =>
    clear he hf
    obtain ⟨ev', re', r', c', a', n', vv, rfl, rfl, HD, he, hf, hbx, hB, hv1⟩ := hrel
    have b0 := blk_cell hbx 0
    have b1 := blk_cell hbx 1
    have b2 := blk_cell hbx 2
    have b3 := blk_cell hbx 3
    simp only [List.getElem?_toArray, List.getElem?_cons_zero, List.getElem?_cons_succ] at b0 b1 b2 b3
    have HB := Aside0.mk hB
    have HX := Aside0.mk hbx
    clear hB hbx
    cases r' with
    | nil =>
      have hc : c' = 0 := hf
      subst hc
      cases re' with
      | nil =>
        have he' : ev' = .nilIface := he
        subst he'
        clear he hf
        go_wp2
        go_ret
        exact ⟨by rw [← HD.out]; rfl, HB.out⟩
      | cons x re' =>
        obtain ⟨cx, ax, nx⟩ := x
        obtain ⟨bx, cv, rfl, hk, hbk, hr⟩ := he
        go_wp2
        go_ret
        exact ⟨by rw [← HD.out]; rfl, HB.out⟩
    | cons x r' =>
      obtain ⟨cy, ay, ny⟩ := x
      unfold FIs at hf
      obtain ⟨rfl, hc0, rfl, rfl, hrest⟩ := hf
      have hc0b : (c' == 0) = false := by simpa using hc0
      clear hc0
      cases re' with
      | nil =>
        have he' : ev' = .nilIface := he
        subst he'
        clear he
        go_wp2
        go_quiet (fail)
        go_wp2
        go_ret
        exact ⟨by rw [← HD.out]; rfl, pw_below_drewN HB.out _⟩
      | cons x re' =>
        obtain ⟨cx, ax, nx⟩ := x
        obtain ⟨bx, cv, rfl, hk, hbk, hr⟩ := he
        have d0 := blk_cell hbk 0
        have d1 := blk_cell hbk 1
        have d2 := blk_cell hbk 2
        have d3 := blk_cell hbk 3
        simp only [List.getElem?_toArray, List.getElem?_cons_zero, List.getElem?_cons_succ] at d0 d1 d2 d3
        by_cases hcc : cx = c'
        · subst hcc
          have e0 : (cx != cx) = false := by simp
          by_cases haa : ax = a'
          · subst haa
            have e1 : (ax != ax) = false := by simp
            by_cases hnn : nx = n'
            · subst hnn
              have e2 : (nx.toList == nx.toList) = true := by simp
              cases r' with
              | nil =>
                obtain ⟨A, kk, rfl⟩ := hrest
                cases re' with
                | nil =>
                  have hr' : cv = .nilIface := hr
                  subst hr'
                  clear hr
                  go_wp2
                  go_quiet (fail)
                  go_wp2
                  go_ret
                  exact ⟨by rw [← HD.out]; simp, pw_below_drewN HB.out _⟩
                | cons x2 re2 =>
                  obtain ⟨c3, a3, n3⟩ := x2
                  obtain ⟨b3', cv3, rfl, hk3, hbk3, hr3⟩ := hr
                  go_wp2
                  go_quiet (fail)
                  go_wp2
                  go_ret
                  exact ⟨by rw [← HD.out]; simp, pw_below_drewN HB.out _⟩
              | cons y r2 =>
                obtain ⟨c2, a2, n2⟩ := y
                obtain ⟨b, o, kk, v2, rfl, hbo, g0, g1, g2, g3, ⟨A2, l2, k2, rfl⟩, hf2⟩ := hrest
                have fb : wr.frozen? ⟨w.heap.size, 0, none⟩ = false := blk_frozen HX.out 0
                have fb1 : wr.frozen? ⟨w.heap.size, 1, none⟩ = false := blk_frozen HX.out 1
                have fb2 : wr.frozen? ⟨w.heap.size, 2, none⟩ = false := blk_frozen HX.out 2
                have fb3 : wr.frozen? ⟨w.heap.size, 3, none⟩ = false := blk_frozen HX.out 3
                go_wp2
                go_quiet (fail)
                go_wp2
                go_roundg (((c2, a2, n2) :: r2).length)
                case measure => simp
                case rel => exact ⟨cv, re', (c2, a2, n2) :: r2, c2, a2, n2, .slice A2 l2 k2, rfl, rfl, ⟨by rw [← HD.out]; simp⟩, is_next hok HX.out HB.out hr hf2⟩
            · have e2 : (nx.toList == n'.toList) = false := bytes_ne hnn
              have HN := Aside0.mk hnn
              clear hnn
              go_wp2
              go_quiet (fail)
              go_wp2
              go_ret
              exact ⟨by rw [← HD.out]; simp [HN.out], pw_below_drewN HB.out _⟩
          · have e1 : (ax != a') = true := by simpa using haa
            have HN := Aside0.mk haa
            clear haa
            go_wp2
            go_quiet (fail)
            go_wp2
            go_ret
            exact ⟨by rw [← HD.out]; simp [HN.out], pw_below_drewN HB.out _⟩
        · have e0 : (cx != c') = true := by simpa using hcc
          have HN := Aside0.mk hcc
          clear hcc
          go_wp2
          go_quiet (fail)
          go_wp2
          go_ret
          exact ⟨by rw [← HD.out]; simp [HN.out], pw_below_drewN HB.out _⟩

theorem IsErr.bound {w : World} {ok : Nat → Prop} : ∀ {r : List (Int × Int × ByteArray)} {ev : Value}, IsErr w ok ev r → IsErr w (fun k => ok k ∧ k < w.heap.size) ev r
  | [], _, h => h
  | (_, _, _) :: _, _, ⟨b, cv, h1, h2, h3, h4⟩ => ⟨b, cv, h1, ⟨h2, blk_lt h3⟩, h3, h4.bound⟩
theorem FIs.bound {w : World} {ok : Nat → Prop} : ∀ {r : List (Int × Int × ByteArray)} {c a : Int} {n : ByteArray} {v : Value}, FIs w ok c a n v r → FIs w (fun k => ok k ∧ k < w.heap.size) c a n v r
  | [], _, _, _, _, h => h
  | [(_, _, _)], _, _, _, _, h => h
  | (_, _, _) :: (c2, a2, n2) :: r', _, _, _, _, h => by
    obtain ⟨h1, h2, h3, h4, b, o, k, v2, h5, h6, h7, h8, h9, h10, h11, h12⟩ := h
    exact ⟨h1, h2, h3, h4, b, o, k, v2, h5, ⟨h6, World.block_lt_of_cell? w _ h7⟩, h7, h8, h9, h10, h11, h12.bound⟩
theorem FIs.mono {w : World} {ok ok' : Nat → Prop} (hok : ∀ k, ok k → ok' k) : ∀ {r : List (Int × Int × ByteArray)} {c a : Int} {n : ByteArray} {v : Value}, FIs w ok c a n v r → FIs w ok' c a n v r
  | [], _, _, _, _, h => h
  | [(_, _, _)], _, _, _, _, h => h
  | (_, _, _) :: (c2, a2, n2) :: r', _, _, _, _, h => by
    obtain ⟨h1, h2, h3, h4, b, o, k, v2, h5, h6, h7, h8, h9, h10, h11, h12⟩ := h
    exact ⟨h1, h2, h3, h4, b, o, k, v2, h5, hok _ h6, h7, h8, h9, h10, h11, h12.mono hok⟩

/-- Is: whether the error is just this chain. -/
theorem is_calls (w : World) (ok ok' : Nat → Prop) (ev : Value) (re r : List (Int × Int × ByteArray)) (c a : Int) (n : ByteArray) (v : Value) (hv : ∃ A2 l2 k2, v = .slice A2 l2 k2) (he : IsErr w ok ev re) (hf : FIs w ok' c a n v r) :
    Calls Try.prog 19 #[ev, .agg #[.int .i64 c, .int .i64 a, .string n, v]] w fun e w' => e = .returned (.bool (decide (re = r))) ∧ Below w.heap.size w w' :=
  is_try w (fun k => k < w.heap.size) ev re r c a n v hv (fun _ h => h) (he.bound.mono (fun _ h => h.2)) (hf.bound.mono (fun _ h => h.2))

end Go.Proofs.Ytgcjfobmccoibaa.Nm
