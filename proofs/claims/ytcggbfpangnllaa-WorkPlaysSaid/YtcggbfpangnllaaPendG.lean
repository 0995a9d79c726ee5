/- What Add and Del do to the queues: plain. -/
import Derived.Test.YtcggbfpangnllaaPendF
namespace Go.Proofs.Ytcggbfpangnllaa
open Go.RowKit Go.Shelf i64

/-- Each thing is one, and is queued once. -/
structure OkQ (R : List (List Int)) : Prop where
  rng : ∀ i x, x ∈ R.getD i [] → 0 ≤ x ∧ x < 256
  nd : ∀ i, (R.getD i []).Nodup
  uniq : ∀ i j x, x ∈ R.getD i [] → x ∈ R.getD j [] → i = j
theorem pigeon (N : Nat) : ∀ (l : List Int), l.Nodup → (∀ x ∈ l, 0 ≤ x ∧ x < (N : Int)) → l.length ≤ N := by
  induction N with
  | zero =>
    intro l _ h
    cases l with
    | nil => simp
    | cons x l => have := h x (by simp); omega
  | succ N ih =>
    intro l hnd h
    have h1 := ih (l.filter (· != (N : Int))) (hnd.filter _) (fun x hx => by
      obtain ⟨hm, hne⟩ := List.mem_filter.1 hx
      have := h x hm
      have hne' : x ≠ (N : Int) := by simpa using hne
      omega)
    rw [← hnd.erase_eq_filter, List.length_erase] at h1
    split at h1 <;> omega
theorem OkQ.room {R : List (List Int)} (h : OkQ R) (k : Nat) (x : Int) (hx : 0 ≤ x ∧ x < 256) (hn : x ∉ R.getD k []) : (R.getD k []).length < 256 := by
  have := pigeon 256 (x :: R.getD k []) (List.nodup_cons.2 ⟨hn, h.nd k⟩) (fun y hy => by
    rcases List.mem_cons.1 hy with rfl | hy
    · exact hx
    · exact h.rng k y hy)
  simp only [List.length_cons] at this
  omega
theorem getD_lt {R : List (List Int)} {i : Nat} {x : Int} (h : x ∈ R.getD i []) : i < R.length := by
  by_cases hi : i < R.length
  · exact hi
  · rw [show R.getD i [] = [] by simp [List.getD, Nat.le_of_not_lt hi]] at h; cases h
theorem whB_iff (R : List (List Int)) (x : Int) : whB R x = true ↔ ∃ i, x ∈ R.getD i [] := by
  unfold whB findB whereQ
  rw [List.findIdx?_isSome, List.any_eq_true]
  constructor
  · rintro ⟨l, hl, hx⟩
    obtain ⟨i, hi, rfl⟩ := List.getElem_of_mem hl
    obtain ⟨y, hy, hyx⟩ := List.any_eq_true.1 hx
    have : y = x := by simpa using hyx
    subst this
    exact ⟨i, by simpa [List.getD, hi] using hy⟩
  · rintro ⟨i, hx⟩
    have hi := getD_lt hx
    refine ⟨R[i], List.getElem_mem hi, List.any_eq_true.2 ⟨x, ?_, by simp⟩⟩
    simpa [List.getD, hi] using hx
theorem whB_false (R : List (List Int)) (x : Int) : whB R x = false ↔ ∀ i, x ∉ R.getD i [] := by
  rw [← Bool.not_eq_true, whB_iff]
  exact ⟨fun h i hi => h ⟨i, hi⟩, fun h ⟨i, hi⟩ => h i hi⟩
/-- Where a thing is, as numbers. -/
theorem wh_at (R : List (List Int)) (x : Int) (h : whB R x = true) : ∃ i a : Nat, i < R.length ∧ ∃ ha : a < (R.getD i []).length, (R.getD i [])[a] = x ∧ whC R x = (i : Int) ∧ whA R x = (a : Int) := by
  unfold whB findB at h
  obtain ⟨i, hi⟩ := Option.isSome_iff_exists.1 h
  have hi' := hi
  unfold whereQ at hi'
  rw [List.findIdx?_eq_some_iff_getElem] at hi'
  obtain ⟨hlt, hany, _⟩ := hi'
  have e0 : R.getD i [] = R[i] := by simp [List.getD, hlt]
  cases ha : (R.getD i []).findIdx? (· == x) with
  | none =>
    rw [List.findIdx?_eq_none_iff] at ha
    obtain ⟨y, hy, hyx⟩ := List.any_eq_true.1 hany
    rw [← e0] at hy
    rw [ha y hy] at hyx; cases hyx
  | some a =>
    have ha' := ha
    rw [List.findIdx?_eq_some_iff_getElem] at ha'
    obtain ⟨hal, hax, _⟩ := ha'
    refine ⟨i, a, hlt, hal, by simpa using hax, ?_, ?_⟩
    · unfold whC findC; rw [hi]; rfl
    · unfold whA findA; rw [hi]; simp only; rw [ha]; rfl
theorem whC_eq {R : List (List Int)} (h : OkQ R) {i : Nat} {x : Int} (hx : x ∈ R.getD i []) : whB R x = true ∧ whC R x = (i : Int) := by
  have hB := (whB_iff R x).2 ⟨i, hx⟩
  obtain ⟨j, a, hj, ha, hxa, hC, _⟩ := wh_at R x hB
  have : j = i := h.uniq j i x (by rw [← hxa]; exact List.getElem_mem ha) hx
  subst this
  exact ⟨hB, hC⟩
/-- One thing more, in a queue. -/
def put1 (R : List (List Int)) (k : Nat) (x : Int) : List (List Int) := R.set k (R.getD k [] ++ [x])
theorem getD_set (R : List (List Int)) (k i : Nat) (l : List Int) (hk : k < R.length) : (R.set k l).getD i [] = if i = k then l else R.getD i [] := by
  by_cases e : i = k
  · subst e; simp [List.getD, hk]
  · rw [if_neg e]; simp [List.getD, Ne.symm e]
theorem OkQ.put1 {R : List (List Int)} (h : OkQ R) {k : Nat} (hk : k < R.length) {x : Int} (hx : 0 ≤ x ∧ x < 256) (hn : ∀ i, x ∉ R.getD i []) : OkQ (put1 R k x) := by
  unfold Proofs.Ytcggbfpangnllaa.put1
  refine ⟨fun i y hy => ?_, fun i => ?_, fun i j y hy hz => ?_⟩
  · rw [getD_set R k i _ hk] at hy
    split at hy
    · rcases List.mem_append.1 hy with hy | hy
      · exact h.rng k y hy
      · rw [List.mem_singleton.1 hy]; exact hx
    · exact h.rng i y hy
  · rw [getD_set R k i _ hk]
    split
    · rw [List.nodup_append]
      refine ⟨h.nd k, by simp, fun a ha b hb => ?_⟩
      rw [List.mem_singleton.1 hb]
      rintro rfl
      exact hn k ha
    · exact h.nd i
  · rw [getD_set R k _ _ hk] at hy hz
    split at hy <;> split at hz
    · omega
    · rcases List.mem_append.1 hy with hy | hy
      · have := h.uniq k j y hy hz; omega
      · rw [List.mem_singleton.1 hy] at hz; exact absurd hz (hn j)
    · rcases List.mem_append.1 hz with hz | hz
      · have := h.uniq i k y hy hz; omega
      · rw [List.mem_singleton.1 hz] at hy; exact absurd hy (hn i)
    · exact h.uniq i j y hy hz
/-- Add: the queues behind it; the error. -/
def addR (R : List (List Int)) (k : Nat) : List Int → List (List Int) × Int
  | [] => (R, 0)
  | x :: xs => if 0 ≤ x ∧ x < 256 then (if whB R x then (R, 5) else addR (put1 R k x) k xs) else (R, 2)
/-- A thing is queued no more. -/
def del1 (R : List (List Int)) (x : Int) : List (List Int) := R.map fun l => l.filter (· != x)
theorem del1_getD (R : List (List Int)) (x : Int) (i : Nat) : (del1 R x).getD i [] = (R.getD i []).filter (· != x) := by
  unfold del1
  simp only [List.getD, List.getElem?_map]
  cases R[i]? <;> simp
theorem OkQ.del1 {R : List (List Int)} (h : OkQ R) (x : Int) : OkQ (del1 R x) := by
  refine ⟨fun i y hy => ?_, fun i => ?_, fun i j y hy hz => ?_⟩
  · rw [del1_getD] at hy; exact h.rng i y (List.mem_filter.1 hy).1
  · rw [del1_getD]; exact (h.nd i).filter _
  · rw [del1_getD] at hy hz; exact h.uniq i j y (List.mem_filter.1 hy).1 (List.mem_filter.1 hz).1
theorem filter_not_mem {l : List Int} {x : Int} (h : x ∉ l) : l.filter (· != x) = l := by
  rw [List.filter_eq_self]
  intro y hy
  simp only [bne_iff_ne, ne_eq]
  rintro rfl
  exact h hy
theorem del1_same {R : List (List Int)} {x : Int} (h : whB R x = false) : del1 R x = R := by
  rw [whB_false] at h
  unfold del1
  conv => rhs; rw [← List.map_id R]
  apply List.map_congr_left
  intro l hl
  obtain ⟨i, hi, rfl⟩ := List.getElem_of_mem hl
  exact filter_not_mem (by have := h i; simpa [List.getD, hi] using this)
theorem take_drop_filter {l : List Int} (hnd : l.Nodup) {a : Nat} (ha : a < l.length) {x : Int} (hx : l[a] = x) : l.take a ++ l.drop (a + 1) = l.filter (· != x) := by
  have h1 : l = l.take a ++ x :: l.drop (a + 1) := by rw [← hx, ← List.drop_eq_getElem_cons ha, List.take_append_drop]
  rw [h1] at hnd
  obtain ⟨_, h3, h4⟩ := List.nodup_append.1 hnd
  have h5 := (List.nodup_cons.1 h3).1
  conv => rhs; rw [h1]
  rw [List.filter_append, List.filter_cons, if_neg (by simp), filter_not_mem (fun hm => h4 x hm x (by simp) rfl), filter_not_mem h5]
theorem del1_hit {R : List (List Int)} (h : OkQ R) {i a : Nat} {x : Int} (hi : i < R.length) (ha : a < (R.getD i []).length) (hx : (R.getD i [])[a] = x) : R.set i ((R.getD i []).take a ++ (R.getD i []).drop (a + 1)) = del1 R x := by
  rw [take_drop_filter (h.nd i) ha hx]
  have hm : x ∈ R.getD i [] := by rw [← hx]; exact List.getElem_mem ha
  apply List.ext_getElem
  · simp [del1]
  · intro j h1 h2
    rw [List.length_set] at h1
    have e1 : (R.set i ((R.getD i []).filter (· != x)))[j] = (R.set i ((R.getD i []).filter (· != x))).getD j [] := by simp [List.getD, h1]
    have e2 : (del1 R x)[j] = (del1 R x).getD j [] := by simp [List.getD, h2]
    rw [e1, e2, getD_set R i j _ hi, del1_getD]
    split
    · rename_i e; subst e; rfl
    · rename_i e
      exact (filter_not_mem fun hj => e (h.uniq j i x hj hm)).symm
/-- Del: the queues behind it; how many. -/
def delR (R : List (List Int)) (zs : List Int) : List (List Int) := zs.foldl del1 R
def delN (R : List (List Int)) : List Int → Nat
  | [] => 0
  | x :: xs => (if whB R x then 1 else 0) + delN (del1 R x) xs
theorem delN_le (R : List (List Int)) (zs : List Int) : delN R zs ≤ zs.length := by
  induction zs generalizing R with
  | nil => simp [delN]
  | cons x xs ih => have := ih (del1 R x); unfold delN; simp only [List.length_cons]; split <;> omega
theorem delR_snoc (R : List (List Int)) (zs : List Int) (x : Int) : delR R (zs ++ [x]) = del1 (delR R zs) x := by simp [delR, List.foldl_append]
theorem delN_snoc (R : List (List Int)) (zs : List Int) (x : Int) : delN R (zs ++ [x]) = delN R zs + (if whB (delR R zs) x then 1 else 0) := by
  induction zs generalizing R with
  | nil => show (if whB R x = true then 1 else 0) + 0 = 0 + (if whB R x = true then 1 else 0); omega
  | cons y zs ih =>
    simp only [List.cons_append, delN, ih (del1 R y)]
    rw [show delR R (y :: zs) = delR (del1 R y) zs from rfl]
    omega
theorem OkQ.delR {R : List (List Int)} (h : OkQ R) (zs : List Int) : OkQ (delR R zs) := by
  induction zs generalizing R with
  | nil => exact h
  | cons x xs ih => exact ih (h.del1 x)
end Go.Proofs.Ytcggbfpangnllaa
