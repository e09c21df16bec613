/- What is met, in plain words: the least closed set; loops of compounds, by what is left over. No program here. (and what the parts below say) -/
import Derived.Test.YtgcjfobmccoibaaKe
/-! What is met, in plain words: the least closed set; loops of compounds, by what is left over. No program here. -/
set_option linter.unusedVariables false
namespace Go.Proofs.Ytgcjfobmccoibaa.Gr

theorem run_sup {ns : List S55} {t met r : List Int} (h : Run ns t met r) : (∀ x ∈ met, x ∈ r) ∧ (∀ x ∈ t, x ∈ r) := by
  induction h with
  | nil met => exact ⟨fun x hx => hx, fun x hx => by simp at hx⟩
  | seen hn _ ih =>
    refine ⟨ih.1, fun x hx => ?_⟩
    rcases List.mem_cons.1 hx with rfl | h
    · exact ih.1 _ hn
    · exact ih.2 _ h
  | new hn _ ih =>
    refine ⟨fun x hx => ih.1 x (by simp [hx]), fun x hx => ?_⟩
    rcases List.mem_cons.1 hx with rfl | h
    · exact ih.1 _ (by simp)
    · exact ih.2 _ (by simp [h])
theorem run_closed {ns : List S55} {t met r : List Int} (h : Run ns t met r) : (∀ y ∈ met, ∀ a ∈ argsOf ns y, a ∈ met ∨ a ∈ t) → ∀ y ∈ r, ∀ a ∈ argsOf ns y, a ∈ r := by
  induction h with
  | nil met =>
    intro hc y hy a ha
    rcases hc y hy a ha with h | h
    · exact h
    · simp at h
  | seen hn _ ih =>
    intro hc
    refine ih (fun y hy a ha => ?_)
    rcases hc y hy a ha with h | h
    · exact .inl h
    · rcases List.mem_cons.1 h with rfl | h
      · exact .inl hn
      · exact .inr h
  | new hn _ ih =>
    intro hc
    refine ih (fun y hy a ha => ?_)
    rcases List.mem_append.1 hy with hy | hy
    · rcases hc y hy a ha with h | h
      · exact .inl (by simp [h])
      · rcases List.mem_cons.1 h with rfl | h
        · exact .inl (by simp)
        · exact .inr (by simp [h])
    · obtain rfl := List.mem_singleton.1 hy
      exact .inr (by simp [ha])
theorem run_sound {ns : List S55} {t met r : List Int} (h : Run ns t met r) (S : Int → Prop) (hS : ∀ y, S y → ∀ a ∈ argsOf ns y, S a) : (∀ x ∈ met, S x) → (∀ x ∈ t, S x) → ∀ x ∈ r, S x := by
  induction h with
  | nil met => exact fun hm _ => hm
  | seen hn _ ih => exact fun hm ht => ih hm (fun x hx => ht x (by simp [hx]))
  | new hn _ ih =>
    intro hm ht
    have h0 := ht _ (List.mem_cons_self ..)
    refine ih (fun x hx => ?_) (fun x hx => ?_)
    · rcases List.mem_append.1 hx with h | h
      · exact hm x h
      · obtain rfl := List.mem_singleton.1 h
        exact h0
    · rcases List.mem_append.1 hx with h | h
      · exact hS _ h0 x h
      · exact ht x (by simp [h])
theorem run_nodup {ns : List S55} {t met r : List Int} (h : Run ns t met r) : met.Nodup → r.Nodup := by
  induction h with
  | nil met => exact fun h => h
  | seen _ _ ih => exact ih
  | new hn _ ih =>
    intro hm
    refine ih ?_
    rw [List.nodup_append]
    exact ⟨hm, by simp, fun a ha b hb e => by obtain rfl := List.mem_singleton.1 hb; subst e; exact hn ha⟩
theorem run_in {ns : List S55} (hg : goodG ns) {t met r : List Int} (h : Run ns t met r) (hm : allIn ns.length met) (ht : allIn ns.length t) : allIn ns.length r :=
  run_sound h (fun x => 0 ≤ x ∧ x < (ns.length : Int)) (fun y hy a ha => (hg y hy.1 hy.2).1 a ha) hm ht

/-- Two lists without a number twice. -/
theorem nodup_len : ∀ {l m : List Int}, l.Nodup → (∀ x ∈ l, x ∈ m) → l.length ≤ m.length
  | [], m, _, _ => Nat.zero_le _
  | x :: l, m, h, hs => by
    have hx : x ∈ m := hs x (by simp)
    have h1 := List.nodup_cons.1 h
    have := nodup_len (m := m.erase x) h1.2 (fun y hy => by
      have hne : y ≠ x := fun e => h1.1 (e ▸ hy)
      exact (List.mem_erase_of_ne hne).2 (hs y (by simp [hy])))
    rw [List.length_erase_of_mem hx] at this
    have h2 : 0 < m.length := List.length_pos_of_mem hx
    simp only [List.length_cons]
    omega
theorem nodup_len_lt {l m : List Int} (h : l.Nodup) (hs : ∀ x ∈ l, x ∈ m) {y : Int} (hy : y ∈ m) (hn : y ∉ l) : l.length < m.length := by
  have := nodup_len (l := y :: l) (m := m) (List.nodup_cons.2 ⟨hn, h⟩) (fun x hx => by
    rcases List.mem_cons.1 hx with rfl | h
    · exact hy
    · exact hs x h)
  simp only [List.length_cons] at this
  omega
theorem nodup_all {l m : List Int} (h : l.Nodup) (hs : ∀ x ∈ l, x ∈ m) (hlen : m.length ≤ l.length) : ∀ x ∈ m, x ∈ l := fun x hx => by
  by_cases hn : x ∈ l
  · exact hn
  · have := nodup_len_lt h hs hx hn
    omega

/-- d is what is met from the list l alone. -/
def From (ns : List S55) (l d : List Int) : Prop := Run ns l [] d
theorem From.sup {ns : List S55} {l d : List Int} (h : From ns l d) : ∀ x ∈ l, x ∈ d := (run_sup h).2
theorem From.closed {ns : List S55} {l d : List Int} (h : From ns l d) : ∀ y ∈ d, ∀ a ∈ argsOf ns y, a ∈ d := run_closed h (fun y hy => by simp at hy)
theorem From.least {ns : List S55} {l d : List Int} (h : From ns l d) (S : Int → Prop) (hS : ∀ y, S y → ∀ a ∈ argsOf ns y, S a) (hl : ∀ x ∈ l, S x) : ∀ x ∈ d, S x := run_sound h S hS (fun x hx => by simp at hx) hl
theorem From.nodup {ns : List S55} {l d : List Int} (h : From ns l d) : d.Nodup := run_nodup h List.nodup_nil
theorem from_total {ns : List S55} (hg : goodG ns) {l : List Int} (hl : allIn ns.length l) : ∃ d, From ns l d := run_total hg _ l [] (Nat.le_refl _) hl

/-- A node below which all ends. -/
inductive Ends (ns : List S55) : Int → Prop
  | mk (n : Int) : (∀ a ∈ argsOf ns n, Ends ns a) → Ends ns n
theorem Ends.arg {ns : List S55} {n : Int} (h : Ends ns n) : ∀ a ∈ argsOf ns n, Ends ns a := by cases h with | mk _ h => exact h
theorem ends_not {ns : List S55} (hg : goodG ns) {n : Int} (h : Ends ns n) : 0 ≤ n → n < (ns.length : Int) → ∀ d, From ns (argsOf ns n) d → n ∉ d := by
  induction h with
  | mk n _ ih =>
    intro h0 h1 d hd hn
    have hga := (hg n h0 h1).1
    have hx := hd.least (fun x => ∃ a ∈ argsOf ns n, x = a ∨ ∀ e, From ns (argsOf ns a) e → x ∈ e) (fun y ⟨a, ha, hy⟩ b hb => by
      refine ⟨a, ha, .inr fun e he => ?_⟩
      rcases hy with rfl | hy
      · exact he.sup b hb
      · exact he.closed y (hy e he) b hb) (fun x hx => ⟨x, hx, .inl rfl⟩) n hn
    obtain ⟨a, ha, hna⟩ := hx
    have hai := hga a ha
    obtain ⟨e, he⟩ := from_total hg (hg a hai.1 hai.2).1
    have hno := ih a ha hai.1 hai.2 e he
    rcases hna with rfl | hna
    · exact hno (he.sup _ ha)
    · exact hno (he.closed n (hna e he) a ha)

/-- How many arguments of a node are not among s. -/
def rem (ns : List S55) (s : List Int) (n : Int) : Nat := ((argsOf ns n).filter fun a => decide (a ∉ s)).length
theorem rem_zero {ns : List S55} {s : List Int} {n : Int} : rem ns s n = 0 ↔ ∀ a ∈ argsOf ns n, a ∈ s := by
  unfold rem
  rw [List.length_eq_zero_iff, List.filter_eq_nil_iff]
  constructor
  · intro h a ha
    have := h a ha
    simpa using this
  · intro h a ha
    simp [h a ha]
/-- **A compound holds itself, or all is done.** -/
theorem cyclic_iff {ns : List S55} (hg : goodG ns) {met done : List Int} (hm : met.Nodup) (hmi : allIn ns.length met) (hmc : ∀ y ∈ met, ∀ a ∈ argsOf ns y, a ∈ met)
    (hd : done.Nodup) (hdm : ∀ x, x ∈ done ↔ x ∈ met ∧ rem ns done x = 0) (he : ∀ x ∈ done, Ends ns x) :
    done.length < met.length ↔ ∃ n ∈ met, ∃ d, From ns (argsOf ns n) d ∧ n ∈ d := by
  constructor
  · intro hlt
    by_cases hex : ∃ n ∈ met, ∃ d, From ns (argsOf ns n) d ∧ n ∈ d
    · exact hex
    · have hno : ∀ n ∈ met, ∀ d, From ns (argsOf ns n) d → n ∉ d := fun n hn d hd hnd => hex ⟨n, hn, d, hd, hnd⟩
      have hall : ∀ (k : Nat) (n : Int), n ∈ met → ∀ d, From ns (argsOf ns n) d → d.length < k → n ∈ done := by
        intro k
        induction k with
        | zero => intro n _ d _ h; omega
        | succ k ih =>
          intro n hn d hfd hk
          refine (hdm n).2 ⟨hn, rem_zero.2 fun a ha => ?_⟩
          have ham := hmc n hn a ha
          have hai := hmi a ham
          obtain ⟨e, hfe⟩ := from_total hg (hg a hai.1 hai.2).1
          have had := hfd.sup a ha
          have hsub : ∀ x ∈ e, x ∈ d := hfe.least (fun x => x ∈ d) (fun y hy b hb => hfd.closed y hy b hb) (fun x hx => hfd.closed a had x hx)
          have hle := nodup_len_lt hfe.nodup hsub had (hno a ham e hfe)
          exact ih a ham e hfe (by omega)
      have : met.length ≤ done.length := nodup_len hm (fun x hx => by
        have hxi := hmi x hx
        obtain ⟨d, hfd⟩ := from_total hg (hg x hxi.1 hxi.2).1
        exact hall (d.length + 1) x hx d hfd (by omega))
      omega
  · rintro ⟨n, hn, d, hfd, hnd⟩
    have hni := hmi n hn
    have hle := nodup_len_lt hd (fun x hx => ((hdm x).1 hx).1) hn (fun h => ends_not hg (he n h) hni.1 hni.2 d hfd hnd)
    exact hle

end Go.Proofs.Ytgcjfobmccoibaa.Gr

/-! A trimmed graph in plain words: its nodes, its walk, its paths, its trim. No program here. -/
set_option linter.unusedVariables false
namespace Go.Proofs.Ytgcjfobmccoibaa.Gr

/-- The place of a node among what is met. -/
def at0 (r : List Int) (x : Int) : Int := ((r.idxOf x : Nat) : Int)
theorem at0_lt {r : List Int} {x : Int} (h : x ∈ r) : at0 r x < (r.length : Int) := by
  have := List.idxOf_lt_length_of_mem h
  unfold at0; omega
theorem getD_idxOf {r : List Int} {x : Int} (h : x ∈ r) (d : Int) : r.getD (r.idxOf x) d = x := by
  have := List.idxOf_lt_length_of_mem h
  simp [this]
theorem at0_inj {r : List Int} {x y : Int} (hx : x ∈ r) (hy : y ∈ r) (h : at0 r x = at0 r y) : x = y := by
  have h1 : r.idxOf x = r.idxOf y := by unfold at0 at h; omega
  rw [← getD_idxOf hx 0, ← getD_idxOf hy 0, h1]
theorem movedL_pl {N : Nat} {r l : List Int} (hl : allIn N l) (hr : ∀ x ∈ l, x ∈ r) : movedL l (pl N r) = l.map (at0 r) := by
  unfold movedL
  refine List.map_congr_left fun x hx => ?_
  have h0 := hl x hx
  rw [pl_get r (by omega : x.toNat < N), Int.toNat_of_nonneg h0.1, if_pos (hr x hx)]
  rfl

def trimN (ns : List S55) (r : List Int) (n : Int) : S55 := { ns.getD n.toNat z55 with f3 := (argsOf ns n).map (at0 r) }
def trimL (ns : List S55) (r : List Int) : List S55 := r.map (trimN ns r)
theorem trimL_length (ns : List S55) (r : List Int) : (trimL ns r).length = r.length := by simp [trimL]
theorem trimL_get {ns : List S55} {r : List Int} {x : Int} (h : x ∈ r) : (trimL ns r).getD (at0 r x).toNat z55 = trimN ns r x := by
  have h1 := List.idxOf_lt_length_of_mem h
  have h2 := getD_idxOf h 0
  rw [List.getD_eq_getElem?_getD, List.getElem?_eq_getElem h1, Option.getD_some] at h2
  unfold at0 trimL
  rw [Int.toNat_natCast, List.getD_eq_getElem?_getD, List.getElem?_map, List.getElem?_eq_getElem h1, h2]
  rfl
theorem trim_args {ns : List S55} {r : List Int} {x : Int} (h : x ∈ r) : argsOf (trimL ns r) (at0 r x) = (argsOf ns x).map (at0 r) := by
  show ((trimL ns r).getD (at0 r x).toNat z55).f3 = _
  rw [trimL_get h]
  rfl
theorem trim_run {ns : List S55} {r : List Int} {t met q : List Int} (h : Run ns t met q) : (∀ x ∈ q, x ∈ r) → Run (trimL ns r) (t.map (at0 r)) (met.map (at0 r)) (q.map (at0 r)) := by
  induction h with
  | nil met => intro _; exact .nil _
  | seen hn _ ih => intro hq; exact .seen (List.mem_map_of_mem hn) (ih hq)
  | @new n t met q hn hrun ih =>
    intro hq
    have hs := run_sup hrun
    have hnr : n ∈ r := hq n (hs.1 n (by simp))
    have h1 := ih hq
    rw [List.map_append, List.map_append, ← trim_args hnr] at h1
    refine .new (fun hm => ?_) h1
    obtain ⟨m, hm1, hm2⟩ := List.mem_map.1 hm
    have : m = n := at0_inj (hq m (hs.1 m (by simp [hm1]))) hnr hm2
    exact hn (this ▸ hm1)
/-- The first numbers. -/
def upto (n : Nat) : List Int := (List.range n).map fun (i : Nat) => (i : Int)
theorem upto_length (n : Nat) : (upto n).length = n := by simp [upto]
theorem upto_mem {n : Nat} {x : Int} : x ∈ upto n ↔ 0 ≤ x ∧ x < (n : Int) := by
  simp only [upto, List.mem_map, List.mem_range]
  constructor
  · rintro ⟨i, hi, rfl⟩; omega
  · rintro ⟨h0, h1⟩; exact ⟨x.toNat, by omega, by omega⟩
theorem upto_nodup (n : Nat) : (upto n).Nodup := by
  unfold upto
  rw [List.nodup_iff_pairwise_ne, List.pairwise_map]
  exact (List.nodup_iff_pairwise_ne.1 List.nodup_range).imp (fun h e => h (by omega))
theorem nodup_inj {r : List Int} (h : r.Nodup) {i j : Nat} (hi : i < r.length) (hj : j < r.length) (e : r[i] = r[j]) : i = j := by
  have hp := List.pairwise_iff_getElem.1 (List.nodup_iff_pairwise_ne.1 h)
  rcases Nat.lt_trichotomy i j with hlt | rfl | hlt
  · exact absurd e (hp i j hi hj hlt)
  · rfl
  · exact absurd e.symm (hp j i hj hi hlt)
theorem idxOf_nodup {r : List Int} (h : r.Nodup) {i : Nat} (hi : i < r.length) : r.idxOf r[i] = i := by
  have h1 := List.idxOf_lt_length_of_mem (List.getElem_mem hi)
  have h2 := getD_idxOf (List.getElem_mem hi) 0
  rw [List.getD_eq_getElem?_getD, List.getElem?_eq_getElem h1, Option.getD_some] at h2
  exact nodup_inj h h1 hi h2
theorem trim_order {r : List Int} (h : r.Nodup) : r.map (at0 r) = upto r.length := by
  apply List.ext_getElem
  · simp [upto]
  · intro i h1 h2
    have hi : i < r.length := by simpa using h1
    simp [at0, upto, idxOf_nodup h hi]
theorem at0_upto {n : Nat} {x : Int} (h : x ∈ upto n) : at0 (upto n) x = x := by
  have h1 := upto_mem.1 h
  have hx : (upto n)[x.toNat]'(by rw [upto_length]; omega) = x := by simp [upto]; omega
  have := idxOf_nodup (upto_nodup n) (i := x.toNat) (by rw [upto_length]; omega)
  rw [hx] at this
  unfold at0
  omega

theorem findIdx_no' {α : Type} {p : α → Bool} {l : List α} (h : ∀ x ∈ l, p x = false) : l.findIdx? p = none := by
  rw [List.findIdx?_eq_none_iff]
  exact fun x hx => h x hx
theorem chk_of {ns : List S55} {rs : List Int} (h1 : ns.length ≤ 4096) (h2 : rs.length ≤ 4096) (h3 : ∀ x ∈ ns, goodN x ns.length = true) (h4 : ∀ r ∈ rs, inside ns.length r = true) : chk ns rs = [] := by
  unfold chk
  rw [if_neg (by omega), if_neg (by omega), findIdx_no' (fun x hx => by rw [h3 x hx]; rfl), findIdx_no' (fun x hx => by rw [h4 x hx]; rfl)]
theorem goodN_map {x : S55} {N M : Int} {f : Int → Int} (h : goodN x N = true) (hf : ∀ a ∈ x.f3, inside M (f a) = true) : goodN { x with f3 := x.f3.map f } M = true := by
  unfold goodN at h ⊢
  dsimp only
  by_cases h4 : x.f0 = 4
  · rw [if_pos h4] at h ⊢
    simp only [Bool.and_eq_true, decide_eq_true_eq, List.length_map] at h ⊢
    refine ⟨h.1, h.2.1, h.2.2.1, h.2.2.2.1, ?_⟩
    rw [List.all_map, List.all_eq_true]
    exact fun a ha => hf a ha
  · rw [if_neg h4] at h ⊢
    rw [List.length_map]
    exact h
theorem trim_chk {ns : List S55} {rs r : List Int} (h : chk ns rs = []) (hr : From ns rs r) : chk (trimL ns r) (rs.map (at0 r)) = [] := by
  have hp := chk_parts h
  have hg := goodG_of h
  have hri : allIn ns.length r := run_in hg hr (fun x hx => by simp at hx) (fun x hx => by simpa [inside] using hp.2.2.2 x hx)
  have hlen : r.length ≤ ns.length := by
    have := nodup_len hr.nodup (m := upto ns.length) (fun x hx => upto_mem.2 (hri x hx))
    rwa [upto_length] at this
  refine chk_of (by rw [trimL_length]; omega) (by simpa using hp.2.1) (fun x hx => ?_) (fun x hx => ?_)
  · obtain ⟨n, hn, rfl⟩ := List.mem_map.1 hx
    have hni := hri n hn
    have hm : ns.getD n.toNat z55 ∈ ns := getD_mem (by omega)
    rw [trimL_length]
    refine goodN_map (hp.2.2.1 _ hm) (fun a ha => ?_)
    have := at0_lt (hr.closed n hn a ha)
    rw [inside_iff]
    exact ⟨by unfold at0; omega, this⟩
  · obtain ⟨n, hn, rfl⟩ := List.mem_map.1 hx
    have := at0_lt (hr.sup n hn)
    rw [trimL_length, inside_iff]
    exact ⟨by unfold at0; omega, this⟩
theorem trim_from {ns : List S55} {rs r : List Int} (hr : From ns rs r) : From (trimL ns r) (rs.map (at0 r)) (upto r.length) := by
  have := trim_run hr (fun x hx => hx)
  rw [trim_order hr.nodup] at this
  exact this
theorem trim_again {ns : List S55} {rs r : List Int} (hr : From ns rs r) : trimL (trimL ns r) (upto r.length) = trimL ns r ∧ (rs.map (at0 r)).map (at0 (upto r.length)) = rs.map (at0 r) := by
  have hu : ∀ x ∈ r, at0 r x ∈ upto r.length := fun x hx => upto_mem.2 ⟨by unfold at0; omega, at0_lt hx⟩
  constructor
  · rw [← trim_order hr.nodup]
    unfold trimL
    rw [List.map_map]
    refine List.map_congr_left fun x hx => ?_
    show trimN (trimL ns r) (r.map (at0 r)) (at0 r x) = trimN ns r x
    rw [trim_order hr.nodup]
    unfold trimN
    rw [trimL_get hx, trim_args hx, List.map_map]
    have : (argsOf ns x).map (at0 (upto r.length) ∘ at0 r) = (argsOf ns x).map (at0 r) := List.map_congr_left fun a ha => at0_upto (hu a (hr.closed x hx a ha))
    rw [this]
    rfl
  · rw [List.map_map]
    exact List.map_congr_left fun a ha => at0_upto (hu a (hr.sup a ha))
theorem getD_map {l : List Int} {f : Int → Int} {j : Nat} (h : j < l.length) : (l.map f).getD j 0 = f (l.getD j 0) := by simp [h]
/-- Paths of a trimmed graph lead as before. -/
theorem trim_step {ns : List S55} {rs r : List Int} (hr : From ns rs r) : ∀ (path : List Int) (x : Int), x ∈ r → stepA (trimL ns r) path (at0 r x) = (stepA ns path x).map (at0 r) ∧ (∀ y, stepA ns path x = some y → y ∈ r)
  | [], x, hx => ⟨rfl, fun y hy => by cases hy; exact hx⟩
  | k :: path, x, hx => by
    have ha := trim_args (ns := ns) hx
    simp only [stepA]
    have ha' : ((trimL ns r).getD (at0 r x).toNat z55).f3 = (ns.getD x.toNat z55).f3.map (at0 r) := ha
    rw [ha', List.length_map]
    by_cases h : 0 ≤ k ∧ k < ((ns.getD x.toNat z55).f3.length : Int)
    · rw [if_pos h, if_pos h]
      have hk : k.toNat < (ns.getD x.toNat z55).f3.length := by omega
      have hm : (ns.getD x.toNat z55).f3.getD k.toNat 0 ∈ r := hr.closed x hx _ (getD_mem hk)
      have he : ((ns.getD x.toNat z55).f3.map (at0 r)).getD k.toNat 0 = at0 r ((ns.getD x.toNat z55).f3.getD k.toNat 0) := getD_map hk
      rw [he]
      exact trim_step hr path _ hm
    · rw [if_neg h, if_neg h]
      exact ⟨rfl, fun y hy => by cases hy⟩

end Go.Proofs.Ytgcjfobmccoibaa.Gr

/-! Graphs put beside one another, in plain words: their nodes, paths, what is met. No program here. -/
set_option linter.unusedVariables false
namespace Go.Proofs.Ytgcjfobmccoibaa.Gr

def shiftN (b : Nat) (x : S55) : S55 := { x with f3 := x.f3.map (· + (b : Int)) }
def shiftL (b : Nat) (l : List Int) : List Int := l.map (· + (b : Int))
/-- One graph more. -/
def joinStep (s : List S55 × List Int) (g : List S55 × List Int) : List S55 × List Int := (s.1 ++ g.1.map (shiftN s.1.length), s.2 ++ shiftL s.1.length g.2)
def joinG (gs : List (List S55 × List Int)) : List S55 × List Int := gs.foldl joinStep ([], [])
theorem shiftN_zero (x : S55) : shiftN 0 x = x := by
  unfold shiftN
  have : x.f3.map (· + ((0 : Nat) : Int)) = x.f3 := by simp
  rw [this]
theorem shiftL_zero (l : List Int) : shiftL 0 l = l := by simp [shiftL]
theorem joinG_one (ns : List S55) (rs : List Int) : joinG [(ns, rs)] = (ns, rs) := by
  simp only [joinG, List.foldl_cons, List.foldl_nil, joinStep, List.length_nil, List.nil_append, shiftL_zero]
  have : ns.map (shiftN 0) = ns := by rw [List.map_congr_left (fun x _ => shiftN_zero x)]; simp
  rw [this]
theorem joinG_two (ns : List S55) (rs : List Int) (ms : List S55) (ss : List Int) : joinG [(ns, rs), (ms, ss)] = (ns ++ ms.map (shiftN ns.length), rs ++ shiftL ns.length ss) := by
  have h := joinG_one ns rs
  simp only [joinG, List.foldl_cons, List.foldl_nil] at h ⊢
  rw [h]
  rfl

section
variable {ns ms : List S55}
theorem join_left {n : Int} (h0 : 0 ≤ n) (h1 : n < (ns.length : Int)) : (ns ++ ms.map (shiftN ns.length)).getD n.toNat z55 = ns.getD n.toNat z55 := by
  have : n.toNat < ns.length := by omega
  simp [List.getElem?_append_left this]
theorem join_right {n : Int} (h0 : 0 ≤ n) (h1 : n < (ms.length : Int)) : (ns ++ ms.map (shiftN ns.length)).getD (n + (ns.length : Int)).toNat z55 = shiftN ns.length (ms.getD n.toNat z55) := by
  have h2 : (n + (ns.length : Int)).toNat = ns.length + n.toNat := by omega
  have h3 : n.toNat < ms.length := by omega
  rw [h2, List.getD_eq_getElem?_getD, List.getElem?_append_right (by omega)]
  simp [h3]
theorem goodN_le {x : S55} {N M : Int} (h : goodN x N = true) (hM : N ≤ M) : goodN x M = true := by
  have := goodN_map (f := fun a => a) (M := M) h (fun a ha => by
    have := (goodN_args h).1 a ha
    rw [inside_iff] at this ⊢
    omega)
  simpa using this
theorem join_chk {rs ss rs' : List Int} (h1 : chk ns rs = []) (h2 : chk ms ss = []) (hn : ns.length + ms.length ≤ 4096) (hr : rs'.length ≤ 4096) (hri : ∀ r ∈ rs', inside (ns.length + ms.length : Nat) r = true) : chk (ns ++ ms.map (shiftN ns.length)) rs' = [] := by
  have hp := chk_parts h1
  have hq := chk_parts h2
  have hlen : (ns ++ ms.map (shiftN ns.length)).length = ns.length + ms.length := by simp
  refine chk_of (by omega) hr (fun x hx => ?_) (fun r h => by rw [hlen]; exact hri r h)
  rw [hlen]
  rcases List.mem_append.1 hx with hx | hx
  · exact goodN_le (hp.2.2.1 x hx) (by omega)
  · obtain ⟨y, hy, rfl⟩ := List.mem_map.1 hx
    refine goodN_map (hq.2.2.1 y hy) (fun a ha => ?_)
    have := (goodN_args (hq.2.2.1 y hy)).1 a ha
    rw [inside_iff] at this ⊢
    omega
/-- Paths from the first graph's nodes lead as they led. -/
theorem join_step {rs : List Int} (h1 : chk ns rs = []) : ∀ (path : List Int) (n : Int), inside ns.length n = true → stepA (ns ++ ms.map (shiftN ns.length)) path n = stepA ns path n
  | [], n, _ => rfl
  | k :: path, n, hn => by
    have hn' := inside_iff.1 hn
    simp only [stepA]
    rw [join_left hn'.1 hn'.2]
    by_cases h : 0 ≤ k ∧ k < ((ns.getD n.toNat z55).f3.length : Int)
    · rw [if_pos h, if_pos h]
      exact join_step h1 path _ ((chk_arg h1 hn).1 _ (getD_mem (by omega)))
    · rw [if_neg h, if_neg h]
/-- From the first graph's roots only its nodes are met; from the second's only the second's. -/
theorem join_met_left {rs r : List Int} (h1 : chk ns rs = []) (hr : From (ns ++ ms.map (shiftN ns.length)) rs r) : ∀ x ∈ r, 0 ≤ x ∧ x < (ns.length : Int) := by
  refine hr.least (fun x => 0 ≤ x ∧ x < (ns.length : Int)) (fun y hy a ha => ?_) (fun x hx => by have := (chk_parts h1).2.2.2 x hx; simpa [inside] using this)
  have h2 : argsOf (ns ++ ms.map (shiftN ns.length)) y = argsOf ns y := by unfold argsOf; rw [join_left hy.1 hy.2]
  rw [h2] at ha
  exact (goodG_of h1 y hy.1 hy.2).1 a ha
theorem join_met_right {ss r : List Int} (h2 : chk ms ss = []) (hr : From (ns ++ ms.map (shiftN ns.length)) (shiftL ns.length ss) r) : ∀ x ∈ r, (ns.length : Int) ≤ x := by
  have h3 := hr.least (fun x => (ns.length : Int) ≤ x ∧ x < (ns.length : Int) + (ms.length : Int)) (fun y hy a ha => ?_) (fun x hx => ?_)
  · exact fun x hx => (h3 x hx).1
  · have hy' : y = (y - (ns.length : Int)) + (ns.length : Int) := by omega
    have h4 : argsOf (ns ++ ms.map (shiftN ns.length)) y = (argsOf ms (y - (ns.length : Int))).map (· + (ns.length : Int)) := by
      unfold argsOf
      rw [hy', join_right (by omega) (by omega)]
      rw [show y - (ns.length : Int) + (ns.length : Int) - (ns.length : Int) = y - (ns.length : Int) by omega]
      rfl
    rw [h4] at ha
    obtain ⟨b, hb, rfl⟩ := List.mem_map.1 ha
    have := (goodG_of h2 (y - (ns.length : Int)) (by omega) (by omega)).1 b hb
    omega
  · obtain ⟨b, hb, rfl⟩ := List.mem_map.1 hx
    have := inside_iff.1 ((chk_parts h2).2.2.2 b hb)
    omega
end

end Go.Proofs.Ytgcjfobmccoibaa.Gr

/-! Taking away what leads to nothing that is left, again and again: the plain law of Cyclic. No program here. -/
set_option linter.unusedVariables false
namespace Go.Proofs.Ytgcjfobmccoibaa.Gr
open Go.RowKit

/-- One number less to wait for. -/
def dec (s : List Int × List Int) (n : Int) : List Int × List Int :=
  (s.1.set n.toNat (wrap64 (s.1.getD n.toNat 0 - 1)), if wrap64 (s.1.getD n.toNat 0 - 1) = 0 then s.2 ++ [n] else s.2)
/-- Where a node's arguments are told of it. -/
def tell (n : Int) (ab : List (List Int)) (a : Int) : List (List Int) := ab.set a.toNat (ab.getD a.toNat [] ++ [n])
structure K1 where
  op : List Int
  ab : List (List Int)
  done : List Int
def st1 (ns : List S55) (s : K1) (n : Int) : K1 :=
  ⟨s.op.set n.toNat ((argsOf ns n).length : Int), (argsOf ns n).foldl (tell n) s.ab, if (argsOf ns n).length = 0 then s.done ++ [n] else s.done⟩
def k0 (N : Nat) : K1 := ⟨List.replicate N 0, List.replicate N [], []⟩

theorem set_get {α : Type} {l : List α} {i j : Nat} {x d : α} (hi : i < l.length) : (l.set i x).getD j d = if i = j then x else l.getD j d := by
  by_cases h : i = j
  · subst h
    simp [hi]
  · simp [h]
theorem toNat_ne {a b : Int} (ha : 0 ≤ a) (hb : 0 ≤ b) (h : a ≠ b) : a.toNat ≠ b.toNat := by omega

theorem tell_length (n : Int) (q : List Int) : ∀ ab : List (List Int), (q.foldl (tell n) ab).length = ab.length := by
  induction q with
  | nil => intro ab; rfl
  | cons b q ih => intro ab; rw [List.foldl_cons, ih]; simp [tell]
theorem tell_get (n : Int) (N : Nat) {a : Int} (ha : 0 ≤ a) : ∀ (q : List Int) (ab : List (List Int)), ab.length = N → allIn N q → (q.foldl (tell n) ab).getD a.toNat [] = ab.getD a.toNat [] ++ List.replicate (q.count a) n
  | [], ab, _, _ => by simp
  | b :: q, ab, hN, hq => by
    have hb := hq b (by simp)
    rw [List.foldl_cons, tell_get n N ha q _ (by simp [tell, hN]) (fun x hx => hq x (by simp [hx]))]
    unfold tell
    rw [set_get (by omega)]
    by_cases h : b = a
    · subst h
      rw [if_pos rfl, List.count_cons_self, List.append_assoc, List.replicate_succ]
      rfl
    · rw [if_neg (toNat_ne hb.1 ha h), List.count_cons_of_ne h]

/-- What is told to node a of the nodes ms. -/
def told (ns : List S55) (ms : List Int) (a : Int) : List Int := ms.flatMap fun n => List.replicate ((argsOf ns n).count a) n
def leaf (ns : List S55) (n : Int) : Bool := decide ((argsOf ns n).length = 0)
theorem st1_all {ns : List S55} (hg : goodG ns) : ∀ (ms : List Int) (s : K1), allIn ns.length ms → s.op.length = ns.length → s.ab.length = ns.length →
    (ms.foldl (st1 ns) s).op.length = ns.length ∧ (ms.foldl (st1 ns) s).ab.length = ns.length ∧
    (∀ m, 0 ≤ m → (ms.foldl (st1 ns) s).op.getD m.toNat 0 = if m ∈ ms then ((argsOf ns m).length : Int) else s.op.getD m.toNat 0) ∧
    (∀ a, 0 ≤ a → (ms.foldl (st1 ns) s).ab.getD a.toNat [] = s.ab.getD a.toNat [] ++ told ns ms a) ∧
    (ms.foldl (st1 ns) s).done = s.done ++ ms.filter (leaf ns)
  | [], s, _, h1, h2 => by simp [told, h1, h2]
  | n :: ms, s, hm, h1, h2 => by
    have hn := hm n (by simp)
    have hgn := (hg n hn.1 hn.2).1
    obtain ⟨i1, i2, i3, i4, i5⟩ := st1_all hg ms (st1 ns s n) (fun x hx => hm x (by simp [hx])) (by simp [st1, h1]) (by simp [st1, tell_length, h2])
    rw [List.foldl_cons]
    refine ⟨i1, i2, fun m h0 => ?_, fun a h0 => ?_, ?_⟩
    · rw [i3 m h0]
      by_cases hmm : m ∈ ms
      · rw [if_pos hmm, if_pos (by simp [hmm])]
      · rw [if_neg hmm]
        show (s.op.set n.toNat _).getD m.toNat 0 = _
        rw [set_get (by omega)]
        by_cases e : n = m
        · subst e
          rw [if_pos rfl, if_pos (by simp)]
        · rw [if_neg (toNat_ne hn.1 h0 e), if_neg (by simp [hmm, Ne.symm e])]
    · rw [i4 a h0]
      show ((argsOf ns n).foldl (tell n) s.ab).getD a.toNat [] ++ _ = _
      rw [tell_get n ns.length h0 _ _ h2 hgn, List.append_assoc]
      rfl
    · rw [i5]
      show (if (argsOf ns n).length = 0 then s.done ++ [n] else s.done) ++ _ = _
      by_cases h : (argsOf ns n).length = 0
      · rw [if_pos h, List.filter_cons_of_pos (by simpa [leaf] using h)]
        simp
      · rw [if_neg h, List.filter_cons_of_neg (by simpa [leaf] using h)]

/-! ### The second loop -/
theorem dec_block (n : Int) : ∀ (k v : Nat) (op done : List Int), n.toNat < op.length → op.getD n.toNat 0 = (v : Int) → k ≤ v → v ≤ 1000000 →
    ∃ op', (List.replicate k n).foldl dec (op, done) = (op', if 0 < k ∧ v = k then done ++ [n] else done) ∧ op'.length = op.length ∧ op'.getD n.toNat 0 = ((v - k : Nat) : Int) ∧ ∀ j, j ≠ n.toNat → op'.getD j 0 = op.getD j 0
  | 0, v, op, done, _, h, _, _ => ⟨op, by simp, rfl, by simpa using h, fun _ _ => rfl⟩
  | k + 1, v, op, done, hn, h, hk, hv => by
    have hw : wrap64 ((v : Int) - 1) = ((v - 1 : Nat) : Int) := by rw [wrap_in (by omega) (by omega)]; omega
    rw [List.replicate_succ, List.foldl_cons]
    unfold dec
    dsimp only
    rw [h, hw]
    have hset : (op.set n.toNat ((v - 1 : Nat) : Int)).getD n.toNat 0 = ((v - 1 : Nat) : Int) := by rw [set_get hn, if_pos rfl]
    obtain ⟨op', e1, e2, e3, e4⟩ := dec_block n k (v - 1) (op.set n.toNat ((v - 1 : Nat) : Int)) (if ((v - 1 : Nat) : Int) = 0 then done ++ [n] else done) (by simpa using hn) hset (by omega) (by omega)
    refine ⟨op', ?_, by rw [e2]; simp, by rw [e3]; congr 1; omega, fun j hj => ?_⟩
    · have hfd : (fun (s : List Int × List Int) (n : Int) => (s.1.set n.toNat (wrap64 (s.1.getD n.toNat 0 - 1)), if wrap64 (s.1.getD n.toNat 0 - 1) = 0 then s.2 ++ [n] else s.2)) = dec := rfl
      rw [hfd, e1]
      congr 1
      by_cases h1 : v = k + 1
      · rw [if_pos (show 0 < k + 1 ∧ v = k + 1 from ⟨by omega, h1⟩)]
        by_cases hk0 : 0 < k
        · rw [if_pos ⟨hk0, by omega⟩, if_neg (by omega)]
        · rw [if_neg (fun h => hk0 h.1), if_pos (by omega)]
      · rw [if_neg (show ¬ (0 < k + 1 ∧ v = k + 1) from fun h => h1 h.2)]
        rw [if_neg (fun h => by omega), if_neg (by omega)]
    · rw [e4 j hj, set_get hn, if_neg (fun e => hj e.symm)]

theorem rem_split (ns : List S55) (s : List Int) (n a : Int) (ha : a ∉ s) : rem ns s n = (argsOf ns n).count a + rem ns (s ++ [a]) n := by
  unfold rem
  generalize argsOf ns n = l
  induction l with
  | nil => rfl
  | cons x l ih =>
    by_cases hx : x = a
    · subst hx
      rw [List.count_cons_self, List.filter_cons_of_pos (by simpa using ha), List.filter_cons_of_neg (by simp), List.length_cons, ih]
      omega
    · rw [List.count_cons_of_ne hx]
      by_cases hs : x ∈ s
      · rw [List.filter_cons_of_neg (by simpa using hs), List.filter_cons_of_neg (by simp [hs]), ih]
      · rw [List.filter_cons_of_pos (by simpa using hs), List.filter_cons_of_pos (by simp [hs, hx]), List.length_cons, List.length_cons, ih]
        omega
/-- Whether node n is done with a. -/
def ripe (ns : List S55) (s : List Int) (a n : Int) : Bool := decide (a ∈ argsOf ns n) && decide (rem ns (s ++ [a]) n = 0)
theorem dec_told {ns : List S55} (hg : goodG ns) (s : List Int) (a : Int) (ha : a ∉ s) : ∀ (ms : List Int) (op done : List Int), ms.Nodup → allIn ns.length ms → op.length = ns.length → (∀ n ∈ ms, op.getD n.toNat 0 = (rem ns s n : Int)) →
    ∃ op', (told ns ms a).foldl dec (op, done) = (op', done ++ ms.filter (ripe ns s a)) ∧ op'.length = ns.length ∧ ∀ m, 0 ≤ m → op'.getD m.toNat 0 = if m ∈ ms then (rem ns (s ++ [a]) m : Int) else op.getD m.toNat 0
  | [], op, done, _, _, hl, _ => ⟨op, by simp [told], hl, fun m _ => by simp⟩
  | n :: ms, op, done, hnd, hm, hl, hop => by
    have hn := hm n (by simp)
    have hgn := hg n hn.1 hn.2
    have hsp := rem_split ns s n a ha
    have hrl : rem ns s n ≤ 8 := Nat.le_trans (List.length_filter_le _ _) hgn.2
    obtain ⟨op1, e1, e2, e3, e4⟩ := dec_block n ((argsOf ns n).count a) (rem ns s n) op done (by omega) (hop n (by simp)) (by omega) (by omega)
    have hnd' := List.nodup_cons.1 hnd
    obtain ⟨op', f1, f2, f3⟩ := dec_told hg s a ha ms op1 (if 0 < (argsOf ns n).count a ∧ rem ns s n = (argsOf ns n).count a then done ++ [n] else done) hnd'.2 (fun x hx => hm x (by simp [hx])) (by rw [e2, hl]) (fun x hx => by
      have hxi := hm x (by simp [hx])
      rw [e4 _ (toNat_ne hxi.1 hn.1 (fun e => hnd'.1 (e ▸ hx)))]
      exact hop x (by simp [hx]))
    refine ⟨op', ?_, f2, fun m h0 => ?_⟩
    · have ht : told ns (n :: ms) a = List.replicate ((argsOf ns n).count a) n ++ told ns ms a := rfl
      rw [ht, List.foldl_append, e1, f1]
      congr 1
      have hc : 0 < (argsOf ns n).count a ↔ a ∈ argsOf ns n := List.count_pos_iff
      by_cases h : 0 < (argsOf ns n).count a ∧ rem ns s n = (argsOf ns n).count a
      · rw [if_pos h, List.filter_cons_of_pos (by
          unfold ripe
          rw [decide_eq_true (hc.1 h.1), decide_eq_true (show rem ns (s ++ [a]) n = 0 by omega)]
          rfl)]
        simp
      · rw [if_neg h, List.filter_cons_of_neg (by
          unfold ripe
          intro hr
          simp only [Bool.and_eq_true, decide_eq_true_eq] at hr
          exact h ⟨hc.2 hr.1, by omega⟩)]
    · rw [f3 m h0]
      by_cases hmm : m ∈ ms
      · rw [if_pos hmm, if_pos (by simp [hmm])]
      · rw [if_neg hmm]
        by_cases e : m = n
        · subst e
          rw [if_pos (by simp), e3]
          congr 1
          omega
        · rw [if_neg (by simp [hmm, e]), e4 _ (toNat_ne h0 hn.1 e)]

/-- What holds ahead of each round of the second loop. -/
structure Kinv (ns : List S55) (met : List Int) (i : Nat) (op done : List Int) : Prop where
  len : op.length = ns.length
  op : ∀ n ∈ met, op.getD n.toNat 0 = (rem ns (done.take i) n : Int)
  nd : done.Nodup
  mem : ∀ x, x ∈ done ↔ x ∈ met ∧ rem ns (done.take i) x = 0
  ends : ∀ x ∈ done, Ends ns x
  le : i ≤ done.length
theorem Kinv.length {ns : List S55} {met : List Int} {i : Nat} {op done : List Int} (h : Kinv ns met i op done) : done.length ≤ met.length := nodup_len h.nd (fun x hx => ((h.mem x).1 hx).1)
theorem kinv_start {ns : List S55} (hg : goodG ns) {met : List Int} (hm : met.Nodup) (hmi : allIn ns.length met) :
    Kinv ns met 0 (met.foldl (st1 ns) (k0 ns.length)).op (met.foldl (st1 ns) (k0 ns.length)).done ∧ (met.foldl (st1 ns) (k0 ns.length)).ab.length = ns.length ∧ ∀ a, 0 ≤ a → a < (ns.length : Int) → (met.foldl (st1 ns) (k0 ns.length)).ab.getD a.toNat [] = told ns met a := by
  obtain ⟨i1, i2, i3, i4, i5⟩ := st1_all hg met (k0 ns.length) hmi (by simp [k0]) (by simp [k0])
  have hr0 : ∀ n, rem ns [] n = (argsOf ns n).length := fun n => by
    unfold rem
    rw [List.filter_eq_self.2 (fun a _ => by simp)]
  have hd : (met.foldl (st1 ns) (k0 ns.length)).done = met.filter (leaf ns) := by rw [i5]; rfl
  refine ⟨⟨i1, fun n hn => ?_, ?_, fun x => ?_, fun x hx => ?_, Nat.zero_le _⟩, i2, fun a h0 h1 => ?_⟩
  · have hni := hmi n hn
    rw [i3 n hni.1, if_pos hn, List.take_zero, hr0]
  · rw [hd]; exact hm.filter _
  · rw [hd, List.take_zero, hr0, List.mem_filter]
    simp [leaf]
  · rw [hd, List.mem_filter] at hx
    have : argsOf ns x = [] := List.eq_nil_of_length_eq_zero (by simpa [leaf] using hx.2)
    exact .mk x (fun a ha => by rw [this] at ha; simp at ha)
  · rw [i4 a h0]
    have : (k0 ns.length).ab.getD a.toNat [] = [] := by
      show (List.replicate ns.length ([] : List Int)).getD a.toNat [] = []
      simp [List.getD_eq_getElem?_getD, List.getElem?_replicate]
      split <;> rfl
    rw [this]
    rfl
theorem kinv_round {ns : List S55} (hg : goodG ns) {met : List Int} (hm : met.Nodup) (hmi : allIn ns.length met) {i : Nat} {op done : List Int} (h : Kinv ns met i op done) (hi : i < done.length) :
    ∃ op' done', (told ns met (done.getD i 0)).foldl dec (op, done) = (op', done') ∧ Kinv ns met (i + 1) op' done' ∧ ∃ e, done' = done ++ e := by
  have hai : done.getD i 0 = done[i] := by simp [hi]
  have htk : done.take (i + 1) = done.take i ++ [done[i]] := List.take_succ_eq_append_getElem hi
  have hna : done[i] ∉ done.take i := by
    intro hc
    have h1 := h.nd
    rw [← List.take_append_drop i done, List.drop_eq_getElem_cons hi] at h1
    exact (List.nodup_append.1 h1).2.2 _ hc _ (List.mem_cons_self ..) rfl
  obtain ⟨op', e1, e2, e3⟩ := dec_told hg (done.take i) done[i] hna met op done hm hmi h.len (fun n hn => h.op n hn)
  have hsub : ∀ x ∈ done, x ∈ met := fun x hx => ((h.mem x).1 hx).1
  have hmono : ∀ x, rem ns (done.take i) x = (argsOf ns x).count done[i] + rem ns (done.take i ++ [done[i]]) x := fun x => rem_split ns _ x _ hna
  have htake : (done ++ met.filter (ripe ns (done.take i) done[i])).take (i + 1) = done.take i ++ [done[i]] := by
    rw [List.take_append_of_le_length (by omega), htk]
  have hnew : ∀ x, ripe ns (done.take i) done[i] x = true → 0 < (argsOf ns x).count done[i] ∧ rem ns (done.take i ++ [done[i]]) x = 0 := fun x hx => by
    unfold ripe at hx
    simp only [Bool.and_eq_true, decide_eq_true_eq] at hx
    exact ⟨List.count_pos_iff.2 hx.1, hx.2⟩
  refine ⟨op', _, by rw [hai]; exact e1, ⟨e2, fun n hn => ?_, ?_, fun x => ?_, fun x hx => ?_, by simp; omega⟩, _, rfl⟩
  · have hni := hmi n hn
    rw [e3 n hni.1, if_pos hn, htake]
  · rw [List.nodup_append]
    refine ⟨h.nd, hm.filter _, fun x hx y hy e => ?_⟩
    subst e
    have h1 := hnew x (List.mem_filter.1 hy).2
    have h2 := ((h.mem x).1 hx).2
    have := hmono x
    omega
  · rw [htake, List.mem_append, List.mem_filter]
    have hmx := hmono x
    constructor
    · rintro (hx | ⟨hx, hr⟩)
      · have := (h.mem x).1 hx
        exact ⟨this.1, by omega⟩
      · exact ⟨hx, (hnew x hr).2⟩
    · rintro ⟨hx, hr⟩
      by_cases hc : 0 < (argsOf ns x).count done[i]
      · refine .inr ⟨hx, ?_⟩
        unfold ripe
        rw [decide_eq_true (List.count_pos_iff.1 hc), decide_eq_true hr]
        rfl
      · exact .inl ((h.mem x).2 ⟨hx, by omega⟩)
  · rcases List.mem_append.1 hx with hx | hx
    · exact h.ends x hx
    · have h1 := hnew x (List.mem_filter.1 hx).2
      refine .mk x (fun a ha => ?_)
      have := rem_zero.1 h1.2 a ha
      rw [← htk] at this
      exact h.ends a (List.mem_of_mem_take this)
/-- **Cyclic's answer.** -/
theorem kinv_end {ns : List S55} (hg : goodG ns) {met : List Int} (hm : met.Nodup) (hmi : allIn ns.length met) (hmc : ∀ y ∈ met, ∀ a ∈ argsOf ns y, a ∈ met) {op done : List Int} (h : Kinv ns met done.length op done) :
    done.length < met.length ↔ ∃ n ∈ met, ∃ d, From ns (argsOf ns n) d ∧ n ∈ d := by
  have hmem := h.mem
  rw [List.take_length] at hmem
  exact cyclic_iff hg hm hmi hmc h.nd hmem h.ends

end Go.Proofs.Ytgcjfobmccoibaa.Gr
