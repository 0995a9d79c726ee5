/- GraceBarrier in plain mathematics: when is a barrier over? -/
import Derived.Test.YtefippjakkgjkaaDoorEndN
namespace Go.Proofs.YtefippjakkgjkaaDoor
open Go.RowKit

/-- How many callbacks of number 1 there are. -/
def ones (R : List (List K.Cl)) : Nat := (R.flatten.map (·.1)).count 1
theorem ones_zero {R : List (List K.Cl)} (h : ∀ c ∈ R.flatten, c.1 ≠ 1) : ones R = 0 := by
  unfold ones
  rw [List.count_eq_zero]
  intro hm
  obtain ⟨c, hc, e⟩ := List.mem_map.1 hm
  exact h c hc e
theorem ones_none {R : List (List K.Cl)} (h : ones R = 0) : ∀ c ∈ R.flatten, c.1 ≠ 1 := fun c hc e => by
  unfold ones at h
  rw [List.count_eq_zero] at h
  exact h (List.mem_map.2 ⟨c, hc, e⟩)
theorem ones_pos {R : List (List K.Cl)} {c : K.Cl} (hc : c ∈ R.flatten) (h : c.1 = 1) : 0 < ones R := by
  unfold ones
  rw [List.count_pos_iff]
  exact List.mem_map.2 ⟨c, hc, h⟩
theorem ones_close (g : Int) (R : List (List K.Cl)) : ones (K.closeL g R) = ones R := by unfold ones; rw [closeL_fst]
theorem ones_look (G : GSt) : G.lookS.2.count 1 + ones G.lookS.1.R = ones G.R := by
  rcases look_cases G with ⟨_, e⟩ | ⟨y, hs, ⟨h0, e⟩ | ⟨_, e⟩⟩ <;> rw [e]
  · exact Nat.zero_add _
  · have := (tell_perm G.began G.R).count_eq 1
    rw [List.count_append] at this
    exact this
  · exact Nat.zero_add _
theorem ones_begS (G : GSt) (x : Nat) : ones (G.begS x).R = ones G.R := by
  rcases beg_cases G x with ⟨e, _⟩ | ⟨_, _, e⟩ <;> rw [e]
  exact ones_close _ _
/-- No list is full. -/
def Short (i : Nat) (R : List (List K.Cl)) : Prop := ∀ c, c < 4 → 4 * (R.getD c []).length + c ≤ i + 3
theorem Short.mono {i j : Nat} {R : List (List K.Cl)} (h : Short i R) (hij : i ≤ j) : Short j R := fun c hc => by have := h c hc; omega
theorem Short.room {i : Nat} {R : List (List K.Cl)} (h : Short i R) (hi : i < 100) (c : Nat) (hc : c < 4) : (R.getD c []).length < 64 := by have := h c hc; omega
theorem Short.call {i : Nat} {R : List (List K.Cl)} (h : Short i R) (hlen : R.length = 4) {c : Nat} (hc : c = i % 4) (q : K.Cl) : Short (i + 1) (R.set c (R.getD c [] ++ [q])) := fun c4 h4 => by
  have hcl : c < R.length := by omega
  have := h c4 h4
  by_cases e : c = c4
  · subst e
    rw [show (R.set c (R.getD c [] ++ [q])).getD c [] = R.getD c [] ++ [q] by simp [List.getD, hcl], List.length_append]
    simp only [List.length_cons, List.length_nil]
    omega
  · rw [show (R.set c (R.getD c [] ++ [q])).getD c4 [] = R.getD c4 [] by simp [List.getD, e]]
    omega
theorem Short.look {i : Nat} {G : GSt} (h : Short i G.R) (hlen : G.R.length = 4) : Short i G.lookS.1.R := by
  rcases look_cases G with ⟨_, e⟩ | ⟨y, hs, ⟨h0, e⟩ | ⟨_, e⟩⟩ <;> rw [e]
  · exact h
  · intro c hc
    have := h c hc
    show 4 * ((G.R.map (K.lfL G.began)).getD c []).length + c ≤ i + 3
    rw [show (G.R.map (K.lfL G.began)).getD c [] = K.lfL G.began (G.R.getD c []) by
      have : c < G.R.length := by omega
      simp [List.getD, this]]
    have := (lfL_sub G.began (G.R.getD c [])).length_le
    omega
  · exact h
theorem Short.begS {i : Nat} {G : GSt} (h : Short i G.R) (hlen : G.R.length = 4) (x : Nat) : Short i (G.begS x).R := by
  rcases beg_cases G x with ⟨e, _⟩ | ⟨_, _, e⟩ <;> rw [e]
  · exact h
  · intro c hc
    have := h c hc
    show 4 * ((K.closeL (G.began + 1) G.R).getD c []).length + c ≤ i + 3
    rw [show (K.closeL (G.began + 1) G.R).getD c [] = (G.R.getD c []).map (K.clo (G.began + 1)) by
      have : c < G.R.length := by omega
      simp [K.closeL, List.getD, this]]
    rw [List.length_map]; omega
section
variable {i d : Nat} {G : GSt}
theorem GOk.mono (h : GOk i G d) {j : Nat} (hij : i ≤ j) : GOk j G d := by
  obtain ⟨n, rfl⟩ : ∃ n, j = i + n := ⟨j - i, by omega⟩
  induction n with
  | zero => exact h
  | succ n ih => exact (ih (by omega)).up
/-- Before the barrier. -/
structure B1 (i : Nat) (G : GSt) (d : Nat) : Prop where
  ok : GOk i G d
  short : Short i G.R
  one : ∀ c ∈ G.R.flatten, c.1 = 1
theorem B1.turn (h : B1 i G d) {T : SSt} (ht : Turn G.S T) (hT : T.Ok) : B1 (i + 1) { G with S := T } d := ⟨h.ok.turn ht hT, h.short.mono (Nat.le_succ i), h.one⟩
theorem B1.call (h : B1 i G d) (hi : i < 40) {c : Nat} (hc : c = i % 4) : B1 (i + 1) { G with R := G.R.set c (K.addR (G.R.getD c []) [1]) } d ∧ (G.R.set c (K.addR (G.R.getD c []) [1])).flatten.length = G.R.flatten.length + 1 := by
  have hlen := h.ok.len
  rw [addR_one _ _ (h.short.room (by omega) c (by omega))]
  have hp := set_perm (R := G.R) (c := c) (by omega) ((1 : Int), 0)
  refine ⟨⟨(h.ok.call c (by omega) 1).up, h.short.call hlen hc _, fun q hq => ?_⟩, hp.length_eq⟩
  rcases List.mem_cons.1 (hp.mem_iff.1 hq) with rfl | hm
  · rfl
  · exact h.one q hm
theorem look_mem (G : GSt) {c : K.Cl} (h : c ∈ G.lookS.1.R.flatten) : c ∈ G.R.flatten := by
  rcases look_cases G with ⟨_, e⟩ | ⟨y, hs, ⟨h0, e⟩ | ⟨_, e⟩⟩ <;> rw [e] at h
  · exact h
  · exact lf_mem h
  · exact h
theorem begS_mem (G : GSt) (x : Nat) {c : K.Cl} (h : c ∈ (G.begS x).R.flatten) : ∃ q ∈ G.R.flatten, q.1 = c.1 := by
  have hm : c.1 ∈ (G.begS x).R.flatten.map (·.1) := List.mem_map.2 ⟨c, h, rfl⟩
  rcases beg_cases G x with ⟨e, _⟩ | ⟨_, _, e⟩ <;> rw [e] at hm
  · obtain ⟨q, hq, e⟩ := List.mem_map.1 hm
    exact ⟨q, hq, e⟩
  · rw [show (G.beg x).R = K.closeL (G.began + 1) G.R from rfl, closeL_fst] at hm
    obtain ⟨q, hq, e⟩ := List.mem_map.1 hm
    exact ⟨q, hq, e⟩
theorem B1.poll (h : B1 i G d) (x : Nat) : ∃ d', B1 (i + 1) (G.lookS.1.begS x) d' := by
  obtain ⟨d', h1, _⟩ := h.ok.lookd
  refine ⟨d', h1.begS x, ((h.short.look h.ok.len).begS h1.len x).mono (Nat.le_succ i), fun c hc => ?_⟩
  obtain ⟨q, hq, e⟩ := begS_mem G.lookS.1 x hc
  rw [← e]; exact h.one q (look_mem G hq)
theorem B1.start : B1 0 (GSt.new 4) 0 := ⟨HOk.start.ok, HOk.start.lens, fun _ hc => (nomatch hc)⟩
theorem B1.all (h : B1 i G d) : ones G.R = G.R.flatten.length := by
  unfold ones
  have h1 : (G.R.flatten.map (·.1)).count 1 = (G.R.flatten.map (·.1)).length := by
    rw [List.count_eq_length]
    intro b hb
    obtain ⟨c, hc, rfl⟩ := List.mem_map.1 hb
    exact (h.one c hc).symm
  rw [h1, List.length_map]
/-- Behind the barrier b. -/
structure B2 (i : Nat) (G : GSt) (d : Nat) (b : Int) : Prop where
  ok : GOk i G d
  short : Short i G.R
  st : (b ≤ G.done ∧ ones G.R = 0) ∨ (G.done < b ∧ (∃ c ∈ G.R.flatten, c.1 = 1 ∧ (c.2 = b ∨ c.2 = 0 ∧ b = G.began + 1)) ∧ ∀ c ∈ G.R.flatten, c.1 = 1 → (c.2 = 0 ∧ b = G.began + 1) ∨ (c.2 ≠ 0 ∧ c.2 ≤ b))
theorem B2.test {b : Int} (h : B2 i G d b) : decide ((ones G.R : Int) = 0) = decide (b ≤ G.done) := by
  rcases h.st with ⟨h1, h2⟩ | ⟨h1, ⟨c, hc, hc1, _⟩, _⟩
  · rw [h2, decide_eq_true h1]; rfl
  · have := ones_pos hc hc1
    rw [decide_eq_false (by omega), decide_eq_false (by omega)]
theorem half_mem (h : GOk i G d) {y : Nat × ScSt} (hs : G.sc = some y) {c : K.Cl} (hc : c ∈ G.R.flatten) : c.2 = G.began ∨ c.2 = 0 := by
  obtain ⟨l, hl, hcl⟩ := List.mem_flatten.1 hc
  obtain ⟨A, B, rfl, hA, hB⟩ := h.half y hs l hl
  rcases List.mem_append.1 hcl with hm | hm
  · exact .inl (hA c hm)
  · exact .inr (hB c hm)
theorem open_mem (h : GOk i G d) (hs : G.sc = none) {c : K.Cl} (hc : c ∈ G.R.flatten) : c.2 = 0 := by
  obtain ⟨l, hl, hcl⟩ := List.mem_flatten.1 hc
  exact h.open' hs l hl c hcl
theorem lf_keep (h : GOk i G d) {y : Nat × ScSt} (hs : G.sc = some y) {c : K.Cl} (hc : c ∈ G.R.flatten) (h0 : c.2 = 0) : c ∈ (G.R.map (K.lfL G.began)).flatten := by
  have hb := h.busy y hs; have hd := h.d0
  obtain ⟨l, hl, hcl⟩ := List.mem_flatten.1 hc
  obtain ⟨A, B, rfl, hA, hB⟩ := h.half y hs l hl
  refine List.mem_flatten.2 ⟨B, List.mem_map.2 ⟨_, hl, (half_split (by omega) hA hB).2⟩, ?_⟩
  rcases List.mem_append.1 hcl with hm | hm
  · have := hA c hm; omega
  · exact hm
variable {b : Int}
theorem B2.turn (h : B2 i G d b) {T : SSt} (ht : Turn G.S T) (hT : T.Ok) : B2 (i + 1) { G with S := T } d b := ⟨h.ok.turn ht hT, h.short.mono (Nat.le_succ i), h.st⟩
theorem B2.call (h : B2 i G d b) (hi : i < 100) {c : Nat} (hc : c = i % 4) : B2 (i + 1) { G with R := G.R.set c (K.addR (G.R.getD c []) [2]) } d b ∧ ones (G.R.set c (K.addR (G.R.getD c []) [2])) = ones G.R := by
  have hlen := h.ok.len
  rw [addR_one _ _ (h.short.room (by omega) c (by omega))]
  have hp := set_perm (R := G.R) (c := c) (by omega) ((2 : Int), 0)
  have ho : ones (G.R.set c (G.R.getD c [] ++ [((2 : Int), 0)])) = ones G.R := by
    unfold ones
    rw [(hp.map _).count_eq 1, List.map_cons, List.count_cons]
    simp
  refine ⟨⟨(h.ok.call c (by omega) 2).up, h.short.call hlen hc _, ?_⟩, ho⟩
  rcases h.st with ⟨h1, h2⟩ | ⟨h1, ⟨q, hq, hq2⟩, h3⟩
  · exact .inl ⟨h1, ho.trans h2⟩
  · refine .inr ⟨h1, ⟨q, hp.mem_iff.2 (List.mem_cons_of_mem _ hq), hq2⟩, fun a ha ha1 => ?_⟩
    rcases List.mem_cons.1 (hp.mem_iff.1 ha) with rfl | hm
    · cases ha1
    · exact h3 a hm ha1
theorem B2.look (h : B2 i G d b) : ∃ d', B2 i G.lookS.1 d' b := by
  rcases look_cases G with ⟨_, e⟩ | ⟨y, hs, ⟨h0, e⟩ | ⟨_, e⟩⟩
  · exact ⟨d, by rw [e]; exact h⟩
  · have hsh := h.short.look h.ok.len
    have hov := h.ok.over hs h0
    have hb := h.ok.busy y hs; have hd := h.ok.d0
    rw [e] at hsh ⊢
    refine ⟨_, hov, hsh, ?_⟩
    rcases h.st with ⟨h1, h2⟩ | ⟨h1, ⟨q, hq, hq1, hq2⟩, h3⟩
    · refine .inl ⟨by show b ≤ G.began; omega, ones_zero fun c hc => ones_none h2 c (lf_mem hc)⟩
    · by_cases hbb : b ≤ G.began
      · refine .inl ⟨hbb, ones_zero fun c hc hc1 => ?_⟩
        have hc0 : c.2 = 0 := open_mem hov rfl hc
        rcases h3 c (lf_mem hc) hc1 with ⟨_, h5⟩ | ⟨h5, _⟩
        · omega
        · exact h5 hc0
      · refine .inr ⟨by show G.began < b; omega, ?_, fun c hc hc1 => h3 c (lf_mem hc) hc1⟩
        rcases hq2 with h5 | ⟨h5, h6⟩
        · have := half_mem h.ok hs hq; omega
        · exact ⟨q, lf_keep h.ok hs hq h5, hq1, .inr ⟨h5, h6⟩⟩
  · refine ⟨d, ?_⟩
    rw [e]
    exact ⟨h.ok.wait hs, h.short, h.st⟩
theorem B2.begS (h : B2 i G d b) (x : Nat) : B2 (i + 1) (G.begS x) d b := by
  have hsh := (h.short.begS h.ok.len x).mono (Nat.le_succ i)
  rcases beg_cases G x with ⟨e, _⟩ | ⟨hs, _, e⟩
  · rw [e] at hsh ⊢; exact ⟨h.ok.up, hsh, h.st⟩
  · rw [e] at hsh ⊢
    have hd := h.ok.d0; have hid := h.ok.idle hs
    refine ⟨h.ok.beg hs x, hsh, ?_⟩
    rcases h.st with ⟨h1, h2⟩ | ⟨h1, ⟨q, hq, hq1, hq2⟩, h3⟩
    · exact .inl ⟨h1, (ones_close _ _).trans h2⟩
    · have hq0 := open_mem h.ok hs hq
      have hb : b = G.began + 1 := by
        rcases hq2 with h5 | ⟨_, h6⟩
        · omega
        · exact h6
      have hall : ∀ c ∈ (K.closeL (G.began + 1) G.R).flatten, c.2 = G.began + 1 := fun c hc => by
        obtain ⟨l, hl, hcl⟩ := List.mem_flatten.1 hc
        obtain ⟨zs, hz, rfl⟩ := closeL_mem hl
        obtain ⟨a, ha, rfl⟩ := List.mem_map.1 hcl
        unfold K.clo
        rw [if_pos (h.ok.open' hs zs hz a ha)]
      refine .inr ⟨h1, ?_, fun c hc _ => .inr ?_⟩
      · have hm : q.1 ∈ (K.closeL (G.began + 1) G.R).flatten.map (·.1) := by rw [closeL_fst]; exact List.mem_map.2 ⟨q, hq, rfl⟩
        obtain ⟨c, hc, e1⟩ := List.mem_map.1 hm
        exact ⟨c, hc, e1.trans hq1, .inl (by rw [hall c hc, hb])⟩
      · have := hall c hc; omega
theorem B2.poll (h : B2 i G d b) (x : Nat) : ∃ d', B2 (i + 1) (G.lookS.1.begS x) d' b := by
  obtain ⟨d', h1⟩ := h.look
  exact ⟨d', h1.begS x⟩
theorem newC_all {g : Int} (hg : 0 ≤ g) : ∀ {l : List K.Cl}, (∀ c ∈ l, c.2 = g) → ∀ m : Int, 0 ≤ m → m ≤ g → l.foldl (fun m c => max m c.2) m = if l = [] then m else g
  | [], _, m, _, _ => rfl
  | c :: l, h, m, h0, h1 => by
    rw [List.foldl_cons, h c List.mem_cons_self, newC_all hg (fun x hx => h x (List.mem_cons_of_mem _ hx)) (max m g) (by omega) (by omega)]
    have e : ¬ c :: l = [] := List.cons_ne_nil _ _
    rw [if_neg e]
    split
    · rw [Int.max_eq_right h1]
    · rfl
/-- **The barrier.** -/
theorem B1.barrier (h : B1 i G d) (hi : i ≤ 40) : B2 40 G d G.bar := by
  refine ⟨h.ok.mono hi, h.short.mono hi, ?_⟩
  have hd := h.ok.d0; have hdn := h.ok.dn
  unfold GSt.bar
  by_cases ho : 0 < K.openC G.R.flatten
  · rw [if_pos ho]
    obtain ⟨c, hc⟩ := List.exists_mem_of_length_pos (show 0 < (G.R.flatten.filter fun c => decide (c.2 = 0)).length from ho)
    obtain ⟨hc1, hc2⟩ := List.mem_filter.1 hc
    simp only [decide_eq_true_eq] at hc2
    refine .inr ⟨by omega, ⟨c, hc1, h.one c hc1, .inr ⟨hc2, rfl⟩⟩, fun q hq _ => ?_⟩
    by_cases e : q.2 = 0
    · exact .inl ⟨e, rfl⟩
    · refine .inr ⟨e, ?_⟩
      cases hs : G.sc with
      | none => exact absurd (open_mem h.ok hs hq) e
      | some y => rcases half_mem h.ok hs hq with e2 | e2 <;> omega
  · rw [if_neg ho]
    have ho0 : K.openC G.R.flatten = 0 := by omega
    have hnz := openC_zero ho0
    cases hs : G.sc with
    | none =>
      have he : G.R.flatten = [] := List.eq_nil_iff_forall_not_mem.2 fun c hc => hnz c hc (open_mem h.ok hs hc)
      rw [he]
      exact .inl ⟨hd, ones_zero fun c hc => by rw [he] at hc; cases hc⟩
    | some y =>
      have hall : ∀ c ∈ G.R.flatten, c.2 = G.began := fun c hc => (half_mem h.ok hs hc).resolve_right (hnz c hc)
      have hb := h.ok.busy y hs
      unfold K.newC
      rw [newC_all (by omega) hall 0 (Int.le_refl _) (by omega)]
      by_cases he : G.R.flatten = []
      · rw [if_pos he]
        exact .inl ⟨hd, ones_zero fun c hc => by rw [he] at hc; cases hc⟩
      · rw [if_neg he]
        obtain ⟨c, hc⟩ := List.exists_mem_of_ne_nil _ he
        exact .inr ⟨hb, ⟨c, hc, h.one c hc, .inl (hall c hc)⟩, fun q hq _ => .inr ⟨hnz q hq, by rw [hall q hq]; exact Int.le_refl _⟩⟩
end
end Go.Proofs.YtefippjakkgjkaaDoor
