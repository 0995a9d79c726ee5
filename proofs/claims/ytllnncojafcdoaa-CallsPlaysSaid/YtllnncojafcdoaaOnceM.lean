/- CallsOnce in plain mathematics: who waits, who is told. -/
import Derived.Test.YtllnncojafcdoaaCallsF
namespace Go.Proofs.Ytllnncojafcdoaa
open Go.RowKit

def upd (f : Nat → Int) (k : Nat) (v : Int) : Nat → Int := fun j => if j = k then v else f j
/-- A row of numbers, cell by cell. -/
def arr (n : Nat) (f : Nat → Int) : List Value := (List.range n).map fun j => .int .i64 (f j)
theorem arr_len (n : Nat) (f : Nat → Int) : (arr n f).length = n := by simp [arr]
theorem arr_get (n : Nat) (f : Nat → Int) (j : Nat) (h : j < n) : (arr n f).getD j undef = .int .i64 (f j) := by simp [arr, List.getD, h]
theorem arr_zero (n : Nat) : arr n (fun _ => 0) = List.replicate n (.int .i64 0) := by
  apply List.ext_getElem
  · simp [arr]
  · intro i h1 h2; simp [arr]
theorem arr_set (n : Nat) (f : Nat → Int) (k : Nat) (v : Int) : (arr n f).set k (.int .i64 v) = arr n (upd f k v) := by
  apply List.ext_getElem
  · simp [arr]
  · intro i h1 h2
    rw [List.getElem_set]
    simp only [arr, List.getElem_map, List.getElem_range, upd]
    by_cases e : k = i
    · rw [if_pos e, if_pos e.symm]
    · rw [if_neg e, if_neg (Ne.symm e)]
theorem arr_congr (n : Nat) (f g : Nat → Int) (h : ∀ j, j < n → f j = g j) : arr n f = arr n g := by
  unfold arr
  exact List.map_congr_left fun j hj => by rw [h j (List.mem_range.1 hj)]
/-- Who waits on CPU c. -/
def wt (n : Nat) (cpu : Nat → Nat) (t : Nat → Int) (c : Nat) : List Nat := (List.range' 1 n).filter fun j => cpu j == c && t j == 0
def idOf (c j : Nat) : Int := ((j * 4 + c : Nat) : Int)
def ringW (n : Nat) (cpu : Nat → Nat) (t g : Nat → Int) (c : Nat) : List Cl := (wt n cpu t c).map fun j => (idOf c j, g j)
def ringsW (n : Nat) (cpu : Nat → Nat) (t g : Nat → Int) : List (List Cl) := (List.range 4).map (ringW n cpu t g)
theorem mem_wt {n : Nat} {cpu : Nat → Nat} {t : Nat → Int} {c j : Nat} : j ∈ wt n cpu t c ↔ (1 ≤ j ∧ j ≤ n) ∧ cpu j = c ∧ t j = 0 := by
  unfold wt
  rw [List.mem_filter, List.mem_range'_1]
  simp only [Bool.and_eq_true, beq_iff_eq]
  constructor
  · rintro ⟨⟨h1, h2⟩, h3⟩; exact ⟨⟨h1, by omega⟩, h3⟩
  · rintro ⟨⟨h1, h2⟩, h3⟩; exact ⟨⟨h1, by omega⟩, h3⟩
theorem wt_sorted (n : Nat) (cpu : Nat → Nat) (t : Nat → Int) (c : Nat) : (wt n cpu t c).Pairwise (· < ·) := (List.pairwise_lt_range' 1 (by decide)).filter _
theorem wt_len (n : Nat) (cpu : Nat → Nat) (t : Nat → Int) (c : Nat) : (wt n cpu t c).length ≤ n := by
  have := List.length_filter_le (fun j => cpu j == c && t j == 0) (List.range' 1 n)
  rw [List.length_range'] at this
  exact this
theorem ringsW_get (n : Nat) (cpu : Nat → Nat) (t g : Nat → Int) (c : Nat) (h : c < 4) : (ringsW n cpu t g).getD c [] = ringW n cpu t g c := by simp [ringsW, List.getD, h]
/-- What holds of the numbers. -/
structure Once (n : Nat) (gen : Int) (cpu : Nat → Nat) (t g last : Nat → Int) : Prop where
  nn : 0 ≤ gen
  cpu4 : ∀ j, cpu j < 4
  g0 : ∀ j, 1 ≤ j → j ≤ n → 0 ≤ g j ∧ g j ≤ gen
  gz : ∀ j, n < j → g j = 0
  tz : ∀ j, n < j → t j = 0
  mono : ∀ i j, 1 ≤ i → i < j → j ≤ n → g j ≠ 0 → g i ≠ 0 ∧ g i ≤ g j
  ls : ∀ j, 1 ≤ j → j ≤ n → t j = 0 → last (cpu j) < j
  ln : ∀ c, c < 4 → last c ≤ n
theorem Once.zero : Once 0 0 (fun _ => 0) (fun _ => 0) (fun _ => 0) (fun _ => 0) :=
  ⟨by decide, fun _ => by decide, fun j h1 h2 => by omega, fun _ _ => rfl, fun _ _ => rfl, fun i j h1 h2 h3 => by omega, fun j h1 h2 => by omega, fun _ _ => by decide⟩
theorem ringsW_zero : ringsW 0 (fun _ => 0) (fun _ => 0) (fun _ => 0) = List.replicate 4 [] := by decide
section
variable {n : Nat} {gen : Int} {cpu : Nat → Nat} {t g last : Nat → Int}
/-! ### Add -/
def cpuN (n c : Nat) (cpu : Nat → Nat) : Nat → Nat := fun j => if j = n + 1 then c else cpu j
theorem Once.add (h : Once n gen cpu t g last) (c : Nat) (hc : c < 4) : Once (n + 1) gen (cpuN n c cpu) t g last := by
  refine ⟨h.nn, fun j => ?_, fun j h1 h2 => ?_, fun j hj => h.gz j (by omega), fun j hj => h.tz j (by omega), fun i j h1 h2 h3 h4 => ?_, fun j h1 h2 h3 => ?_, fun c hc => by have := h.ln c hc; omega⟩
  · unfold cpuN; split
    · exact hc
    · exact h.cpu4 j
  · by_cases e : j = n + 1
    · rw [h.gz j (by omega)]; exact ⟨Int.le_refl _, h.nn⟩
    · exact h.g0 j h1 (by omega)
  · by_cases e : j = n + 1
    · exact absurd (h.gz j (by omega)) h4
    · exact h.mono i j h1 h2 (by omega) h4
  · unfold cpuN
    by_cases e : j = n + 1
    · rw [if_pos e]; have := h.ln c hc; omega
    · rw [if_neg e]; exact h.ls j h1 (by omega) h3
theorem wt_add (h : Once n gen cpu t g last) (c d : Nat) : wt (n + 1) (cpuN n c cpu) t d = wt n cpu t d ++ if d = c then [n + 1] else [] := by
  unfold wt
  rw [List.range'_concat, List.filter_append]
  congr 1
  · refine List.filter_congr fun j hj => ?_
    rw [List.mem_range'_1] at hj
    unfold cpuN
    rw [if_neg (by omega)]
  · rw [show 1 + 1 * n = n + 1 by omega, List.filter_cons, List.filter_nil]
    unfold cpuN
    rw [if_pos rfl, h.tz (n + 1) (by omega)]
    by_cases e : d = c
    · subst e; simp
    · rw [if_neg e, if_neg (by simp [Ne.symm e])]
theorem ringW_add (h : Once n gen cpu t g last) (c d : Nat) : ringW (n + 1) (cpuN n c cpu) t g d = ringW n cpu t g d ++ if d = c then [(idOf c (n + 1), 0)] else [] := by
  unfold ringW
  rw [wt_add h, List.map_append]
  congr 1
  by_cases e : d = c
  · subst e; simp [h.gz (n + 1) (by omega)]
  · simp [e]
theorem ringsW_add (h : Once n gen cpu t g last) (hn : n < 64) (c : Nat) (hc : c < 4) : (ringsW n cpu t g).set c (addR ((ringsW n cpu t g).getD c []) [idOf c (n + 1)]) = ringsW (n + 1) (cpuN n c cpu) t g := by
  rw [ringsW_get n cpu t g c hc]
  apply List.ext_getElem
  · simp [ringsW]
  · intro i h1 h2
    rw [List.getElem_set]
    simp only [ringsW, List.getElem_map, List.getElem_range]
    rw [ringW_add h]
    by_cases e : c = i
    · subst e
      rw [if_pos rfl, if_pos rfl]
      unfold addR
      have hl : (ringW n cpu t g c).length ≤ n := by unfold ringW; rw [List.length_map]; exact wt_len n cpu t c
      rw [show 64 - (ringW n cpu t g c).length = (63 - (ringW n cpu t g c).length) + 1 by omega]
      simp
    · rw [if_neg e, if_neg (Ne.symm e), List.append_nil]
theorem ringsW_room (hn : n < 64) (c : Nat) (hc : c < 4) : 1 ≤ 64 - ((ringsW n cpu t g).getD c []).length := by
  rw [ringsW_get n cpu t g c hc]
  have hl : (ringW n cpu t g c).length ≤ n := by unfold ringW; rw [List.length_map]; exact wt_len n cpu t c
  omega
/-! ### Close -/
/-- The generations behind the first k were looked at. -/
def clG (gen : Int) (g : Nat → Int) (k : Nat) : Nat → Int := fun j => if 1 ≤ j ∧ j < k ∧ g j = 0 then gen else g j
theorem clG_one (gen : Int) (g : Nat → Int) : clG gen g 1 = g := by
  funext j; unfold clG; rw [if_neg (by omega)]
theorem clG_at (gen : Int) (g : Nat → Int) (k : Nat) : clG gen g k k = g k := by unfold clG; rw [if_neg (by omega)]
theorem clG_yes (gen : Int) (g : Nat → Int) (k : Nat) (hk : 1 ≤ k) (h : g k = 0) : upd (clG gen g k) k gen = clG gen g (k + 1) := by
  funext j; unfold upd clG
  by_cases e : j = k
  · subst e; rw [if_pos rfl, if_pos ⟨hk, by omega, h⟩]
  · rw [if_neg e]
    by_cases e2 : 1 ≤ j ∧ j < k ∧ g j = 0
    · rw [if_pos e2, if_pos ⟨e2.1, by omega, e2.2.2⟩]
    · rw [if_neg e2, if_neg (fun hh => e2 ⟨hh.1, by omega, hh.2.2⟩)]
theorem clG_no (gen : Int) (g : Nat → Int) (k : Nat) (h : g k ≠ 0) : clG gen g k = clG gen g (k + 1) := by
  funext j; unfold clG
  by_cases e2 : 1 ≤ j ∧ j < k ∧ g j = 0
  · rw [if_pos e2, if_pos ⟨e2.1, by omega, e2.2.2⟩]
  · rw [if_neg e2, if_neg (fun hh => e2 ⟨hh.1, by
      have : j ≠ k := by rintro rfl; exact h hh.2.2
      omega, hh.2.2⟩)]
theorem ringsW_close (gen : Int) (cpu : Nat → Nat) (t g : Nat → Int) : closeL gen (ringsW n cpu t g) = ringsW n cpu t (clG gen g (n + 1)) := by
  unfold closeL ringsW
  rw [List.map_map]
  refine List.map_congr_left fun c hc => ?_
  simp only [Function.comp]
  unfold ringW
  rw [List.map_map]
  refine List.map_congr_left fun j hj => ?_
  obtain ⟨⟨h1, h2⟩, _⟩ := mem_wt.1 hj
  simp only [Function.comp, clo, clG]
  by_cases e : g j = 0
  · simp [e, h1, show j < n + 1 by omega]
  · simp [e]
theorem Once.close (h : Once n gen cpu t g last) : Once n (gen + 1) cpu t (clG (gen + 1) g (n + 1)) last := by
  have hnn := h.nn
  refine ⟨by omega, h.cpu4, fun j h1 h2 => ?_, fun j hj => ?_, h.tz, fun i j h1 h2 h3 h4 => ?_, h.ls, h.ln⟩
  · unfold clG
    have := h.g0 j h1 h2
    split <;> omega
  · unfold clG; rw [if_neg (by omega)]; exact h.gz j hj
  · unfold clG at h4 ⊢
    have hi := h.g0 i h1 (by omega)
    have hj := h.g0 j (by omega) h3
    by_cases ej : g j = 0
    · rw [if_pos (show 1 ≤ j ∧ j < n + 1 ∧ g j = 0 from ⟨by omega, by omega, ej⟩)]
      split <;> omega
    · have := h.mono i j h1 h2 h3 ej
      rw [if_neg (by omega), if_neg (by omega)]
      exact this
/-! ### Done -/
def dnJ (G : Int) (g : Nat → Int) (j : Nat) : Bool := decide (g j ≠ 0) && decide (g j ≤ G)
/-- Whom Done tells: CPU and number. -/
def outW (n : Nat) (G : Int) (cpu : Nat → Nat) (t g : Nat → Int) : List (Nat × Nat) := ((List.range 4).map fun c => ((wt n cpu t c).filter (dnJ G g)).map fun j => (c, j)).flatten
theorem take_filter {α : Type} (p : α → Bool) : ∀ (l : List α), l.Pairwise (fun a b => p b = true → p a = true) → l.takeWhile p = l.filter p ∧ l.dropWhile p = l.filter fun a => !p a
  | [], _ => ⟨rfl, rfl⟩
  | a :: l, h => by
    rw [List.pairwise_cons] at h
    have ih := take_filter p l h.2
    by_cases e : p a = true
    · rw [List.takeWhile_cons_of_pos e, List.dropWhile_cons_of_pos e, List.filter_cons_of_pos e, List.filter_cons_of_neg (by simp [e])]
      exact ⟨by rw [ih.1], ih.2⟩
    · have hn : ∀ b ∈ l, p b = false := fun b hb => by
        cases hpb : p b
        · rfl
        · exact absurd (h.1 b hb hpb) e
      rw [List.takeWhile_cons_of_neg e, List.dropWhile_cons_of_neg e, List.filter_cons_of_neg e, List.filter_cons_of_pos (by simpa using e)]
      refine ⟨(List.filter_eq_nil_iff.2 fun b hb => by simp [hn b hb]).symm, ?_⟩
      rw [List.filter_eq_self.2 fun b hb => by simp [hn b hb]]
theorem wt_split (h : Once n gen cpu t g last) (G : Int) (c : Nat) : (wt n cpu t c).Pairwise (fun a b => dnJ G g b = true → dnJ G g a = true) := by
  refine (wt_sorted n cpu t c).imp_of_mem fun {a b} ha hb hlt hp => ?_
  obtain ⟨⟨a1, a2⟩, _⟩ := mem_wt.1 ha
  obtain ⟨⟨b1, b2⟩, _⟩ := mem_wt.1 hb
  simp only [dnJ, Bool.and_eq_true, decide_eq_true_eq] at hp ⊢
  have := h.mono a b a1 hlt b2 hp.1
  exact ⟨this.1, by omega⟩
theorem tell_outW (h : Once n gen cpu t g last) (G : Int) : tellL G (ringsW n cpu t g) = (outW n G cpu t g).map fun a => idOf a.1 a.2 := by
  unfold tellL outW ringsW
  rw [List.map_map, List.map_flatten, List.map_map]
  congr 1
  refine List.map_congr_left fun c _ => ?_
  simp only [Function.comp, dnL, ringW]
  rw [List.takeWhile_map, List.map_map, List.map_map]
  rw [show (dnB G ∘ fun j => (idOf c j, g j)) = dnJ G g from rfl, (take_filter _ _ (wt_split h G c)).1]
  rfl
theorem mem_outW {G : Int} {a : Nat × Nat} : a ∈ outW n G cpu t g ↔ a.1 < 4 ∧ (1 ≤ a.2 ∧ a.2 ≤ n) ∧ cpu a.2 = a.1 ∧ t a.2 = 0 ∧ g a.2 ≠ 0 ∧ g a.2 ≤ G := by
  unfold outW
  rw [List.mem_flatten]
  constructor
  · rintro ⟨l, hl, ha⟩
    obtain ⟨c, hc, rfl⟩ := List.mem_map.1 hl
    obtain ⟨j, hj, rfl⟩ := List.mem_map.1 ha
    obtain ⟨h1, h2⟩ := List.mem_filter.1 hj
    obtain ⟨h3, h4, h5⟩ := mem_wt.1 h1
    simp only [dnJ, Bool.and_eq_true, decide_eq_true_eq] at h2
    exact ⟨List.mem_range.1 hc, h3, h4, h5, h2⟩
  · rintro ⟨h1, h2, h3, h4, h5⟩
    refine ⟨_, List.mem_map.2 ⟨a.1, List.mem_range.2 h1, rfl⟩, List.mem_map.2 ⟨a.2, List.mem_filter.2 ⟨mem_wt.2 ⟨h2, h3, h4⟩, ?_⟩, rfl⟩⟩
    simp only [dnJ, Bool.and_eq_true, decide_eq_true_eq]
    exact h5
theorem outW_pair (G : Int) : (outW n G cpu t g).Pairwise fun a b => a.2 ≠ b.2 ∧ (a.1 = b.1 → a.2 < b.2) := by
  unfold outW
  rw [List.pairwise_flatten]
  constructor
  · intro l hl
    obtain ⟨c, _, rfl⟩ := List.mem_map.1 hl
    rw [List.pairwise_map]
    exact ((wt_sorted n cpu t c).filter _).imp fun {a b} hlt => ⟨by simp; omega, fun _ => hlt⟩
  · rw [List.pairwise_map]
    refine List.pairwise_lt_range.imp fun {c d} hlt x hx y hy => ?_
    obtain ⟨i, hi, rfl⟩ := List.mem_map.1 hx
    obtain ⟨j, hj, rfl⟩ := List.mem_map.1 hy
    obtain ⟨_, hci, _⟩ := mem_wt.1 (List.mem_filter.1 hi).1
    obtain ⟨_, hdj, _⟩ := mem_wt.1 (List.mem_filter.1 hj).1
    refine ⟨fun e => ?_, fun e => ?_⟩
    · change i = j at e; subst e; omega
    · change c = d at e; omega
/-- Told behind the first k. -/
def tk (O : List (Nat × Nat)) (t : Nat → Int) (k : Nat) : Nat → Int := fun j => if j ∈ (O.take k).map (·.2) then 1 else t j
def LastOk (O : List (Nat × Nat)) (last : Nat → Int) (k : Nat) (L : Nat → Int) : Prop := ∀ c, c < 4 → L c = last c ∨ ∃ a ∈ O.take k, a.1 = c ∧ L c = a.2
theorem tk_zero (O : List (Nat × Nat)) (t : Nat → Int) : tk O t 0 = t := by funext j; simp [tk]
theorem take_mem {α : Type} {l : List α} {k : Nat} {x : α} (hk : l[k]? = some x) : l.take (k + 1) = l.take k ++ [x] := by
  obtain ⟨h1, h2⟩ := List.getElem?_eq_some_iff.1 hk
  rw [List.take_succ_eq_append_getElem h1, h2]
theorem tk_step {O : List (Nat × Nat)} {t : Nat → Int} {k : Nat} {a : Nat × Nat} (ha : O[k]? = some a) : upd (tk O t k) a.2 1 = tk O t (k + 1) := by
  funext j
  unfold upd tk
  rw [take_mem ha, List.map_append]
  by_cases e : j = a.2
  · subst e; simp
  · rw [if_neg e]
    by_cases e2 : j ∈ (O.take k).map (·.2)
    · rw [if_pos e2, if_pos (List.mem_append_left _ e2)]
    · rw [if_neg e2, if_neg]
      intro h
      rcases List.mem_append.1 h with h | h
      · exact e2 h
      · simp at h; exact e h
theorem last_step {O : List (Nat × Nat)} {last L : Nat → Int} {k : Nat} {a : Nat × Nat} (ha : O[k]? = some a) (h : LastOk O last k L) : LastOk O last (k + 1) (upd L a.1 a.2) := by
  intro c hc
  rw [take_mem ha]
  unfold upd
  by_cases e : c = a.1
  · exact .inr ⟨a, by simp, e.symm, by rw [if_pos e]⟩
  · rw [if_neg e]
    rcases h c hc with h | ⟨b, hb, h1, h2⟩
    · exact .inl h
    · exact .inr ⟨b, List.mem_append_left _ hb, h1, h2⟩
/-- **What the check of the k-th wants.** -/
theorem once_kth (h : Once n gen cpu t g last) {G : Int} {L : Nat → Int} {k : Nat} {a : Nat × Nat} (ha : (outW n G cpu t g)[k]? = some a) (hL : LastOk (outW n G cpu t g) last k L) :
    (a.1 < 4 ∧ 1 ≤ a.2 ∧ a.2 ≤ n) ∧ g a.2 ≠ 0 ∧ g a.2 ≤ G ∧ tk (outW n G cpu t g) t k a.2 = 0 ∧ L a.1 < a.2 := by
  obtain ⟨hk, hx⟩ := List.getElem?_eq_some_iff.1 ha
  have hm : a ∈ outW n G cpu t g := hx ▸ List.getElem_mem hk
  obtain ⟨m1, m2, m3, m4, m5, m6⟩ := mem_outW.1 hm
  have hbefore : ∀ b ∈ (outW n G cpu t g).take k, b.2 ≠ a.2 ∧ (b.1 = a.1 → b.2 < a.2) := by
    intro b hb
    obtain ⟨i, hi, rfl⟩ := List.mem_iff_getElem.1 hb
    have hil : i < k := by rw [List.length_take] at hi; omega
    have := List.pairwise_iff_getElem.1 (outW_pair (n := n) (cpu := cpu) (t := t) (g := g) G) i k (by omega) hk hil
    rw [List.getElem_take]
    rw [hx] at this
    exact this
  refine ⟨⟨m1, m2.1, m2.2⟩, m5, m6, ?_, ?_⟩
  · unfold tk
    rw [if_neg]
    · exact m4
    · intro hh
      obtain ⟨b, hb, e⟩ := List.mem_map.1 hh
      exact (hbefore b hb).1 e
  · rcases hL a.1 m1 with e | ⟨b, hb, h1, h2⟩
    · rw [e, ← m3]; exact h.ls a.2 m2.1 m2.2 m4
    · rw [h2]
      have := (hbefore b hb).2 h1
      omega
theorem tk_all (G : Int) (j : Nat) (h : Once n gen cpu t g last) (h1 : 1 ≤ j) (h2 : j ≤ n) (h3 : g j ≠ 0) (h4 : g j ≤ G) (k : Nat) (hk : (outW n G cpu t g).length ≤ k) : tk (outW n G cpu t g) t k j ≠ 0 := by
  unfold tk
  rw [List.take_of_length_le hk]
  split
  · decide
  · rename_i hn
    intro h0
    exact hn (List.mem_map.2 ⟨(cpu j, j), mem_outW.2 ⟨h.cpu4 j, ⟨h1, h2⟩, rfl, h0, h3, h4⟩, rfl⟩)
theorem Once.done (h : Once n gen cpu t g last) {G : Int} {L : Nat → Int} (k : Nat) (hk : (outW n G cpu t g).length ≤ k) (hL : LastOk (outW n G cpu t g) last k L) : Once n gen cpu (tk (outW n G cpu t g) t k) g L := by
  unfold LastOk at hL
  have htk : ∀ j, tk (outW n G cpu t g) t k j = 0 → t j = 0 := by
    intro j; unfold tk; split
    · intro h; cases h
    · exact id
  rw [List.take_of_length_le hk] at hL
  refine ⟨h.nn, h.cpu4, h.g0, h.gz, fun j hj => ?_, h.mono, fun j h1 h2 h3 => ?_, fun c hc => ?_⟩
  · unfold tk
    rw [if_neg, h.tz j hj]
    intro hh
    obtain ⟨b, hb, e⟩ := List.mem_map.1 hh
    have := (mem_outW.1 (List.mem_of_mem_take hb)).2.1
    omega
  · have ht := htk j h3
    rcases hL (cpu j) (h.cpu4 j) with e | ⟨b, hb, e1, e2⟩
    · rw [e]; exact h.ls j h1 h2 ht
    · rw [e2]
      obtain ⟨m1, m2, m3, m4, m5, m6⟩ := mem_outW.1 hb
      by_cases hlt : b.2 < j
      · omega
      · exfalso
        have hg : g j ≠ 0 ∧ g j ≤ G := by
          by_cases e : j = b.2
          · subst e; exact ⟨m5, m6⟩
          · have := h.mono j b.2 h1 (by omega) m2.2 m5
            exact ⟨this.1, by omega⟩
        exact tk_all G j h h1 h2 hg.1 hg.2 k hk h3
  · rcases hL c hc with e | ⟨b, hb, e1, e2⟩
    · rw [e]; exact h.ln c hc
    · rw [e2]; have := (mem_outW.1 hb).2.1; omega
theorem ringsW_done (h : Once n gen cpu t g last) (G : Int) (k : Nat) (hk : (outW n G cpu t g).length ≤ k) : (ringsW n cpu t g).map (lfL G) = ringsW n cpu (tk (outW n G cpu t g) t k) g := by
  unfold ringsW
  rw [List.map_map]
  refine List.map_congr_left fun c hc => ?_
  have hc := List.mem_range.1 hc
  simp only [Function.comp, lfL, ringW]
  rw [List.dropWhile_map, show (dnB G ∘ fun j => (idOf c j, g j)) = dnJ G g from rfl, (take_filter _ _ (wt_split h G c)).2]
  congr 1
  unfold wt
  rw [List.filter_filter]
  refine List.filter_congr fun j hj => ?_
  have hj' : 1 ≤ j ∧ j ≤ n := by rw [List.mem_range'_1] at hj; omega
  unfold tk
  rw [List.take_of_length_le hk]
  by_cases e : cpu j = c
  · by_cases e2 : t j = 0
    · by_cases e3 : dnJ G g j = true
      · have : j ∈ (outW n G cpu t g).map (·.2) := by
          simp only [dnJ, Bool.and_eq_true, decide_eq_true_eq] at e3
          exact List.mem_map.2 ⟨(cpu j, j), mem_outW.2 ⟨h.cpu4 j, hj', rfl, e2, e3⟩, rfl⟩
        rw [if_pos this]; simp [e, e2, e3]
      · have : j ∉ (outW n G cpu t g).map (·.2) := by
          intro hh
          obtain ⟨b, hb, e4⟩ := List.mem_map.1 hh
          subst e4
          have := (mem_outW.1 hb).2.2.2.2
          exact e3 (by simpa [dnJ] using this)
        rw [if_neg this]; simp [e, e2, e3]
    · have : j ∉ (outW n G cpu t g).map (·.2) := by
        intro hh
        obtain ⟨b, hb, e4⟩ := List.mem_map.1 hh
        subst e4
        exact e2 (mem_outW.1 hb).2.2.2.1
      rw [if_neg this]; simp [e, e2]
  · have e1 : (cpu j == c) = false := by rw [beq_eq_false_iff_ne]; exact e
    rw [e1]
    simp
theorem outW_len (h : n ≤ 60) (G : Int) : (outW n G cpu t g).length ≤ 240 := by
  unfold outW
  rw [List.length_flatten, List.map_map]
  have hl : ∀ c, ((wt n cpu t c).filter (dnJ G g)).length ≤ 60 := fun c => by
    have h1 := List.length_filter_le (dnJ G g) (wt n cpu t c)
    have h2 := wt_len n cpu t c
    omega
  have h0 := hl 0; have h1 := hl 1; have h2 := hl 2; have h3 := hl 3
  rw [show List.range 4 = [0, 1, 2, 3] from rfl]
  simp only [List.map_cons, List.map_nil, Function.comp, List.length_map, List.sum_cons, List.sum_nil]
  omega
end
end Go.Proofs.Ytllnncojafcdoaa
