/- What works are, as a plain state; no program. -/
import Derived.Test.YtcggbfpangnllaaPlay25b
namespace Go.Proofs.Ytcggbfpangnllaa
open Go.RowKit i64

def updB (f : Nat → Bool) (i : Nat) (v : Bool) : Nat → Bool := fun k => if k = i then v else f k
/-- Works: shut, program and one more, of each context its CPU and one more; what is queued, what runs. -/
structure WS where
  sh : Nat → Bool
  pr : Nat → Int
  on : Nat → Int
  Q : List Th
  Rn : List Th
def WS.zero : WS := ⟨fun _ => false, fun _ => 0, fun _ => 0, [], []⟩
def inId (i : Int) : Prop := 0 ≤ i ∧ i < 256
instance (i : Int) : Decidable (inId i) := by unfold inId; infer_instance
def setW (s : WS) (id prog : Int) : WS × Int :=
  if ¬ inId id then (s, 2) else if prog < 0 ∨ 15 < prog then (s, 2) else if s.sh id.toNat then (s, 22) else ({ s with pr := updI s.pr id.toNat (prog + 1) }, 0)
def postW (n : Nat) (s : WS) (id c : Int) : WS × Int :=
  if ¬ inId id then (s, 2) else if c < 0 ∨ (n : Int) ≤ c then (s, 2) else if s.sh id.toNat then (s, 22) else if s.pr id.toNat = 0 then (s, 1) else
    ({ s with Q := (addC n s.Q c [id]).1 }, (addC n s.Q c [id]).2)
def stopW (s : WS) (id : Int) : WS × Bool × Int :=
  if ¬ inId id then (s, false, 2) else if s.pr id.toNat = 0 then (s, false, 1) else ({ s with Q := s.Q.eraseP (·.1 == id) }, lkIB s.Q id, 0)
/-- How many of the first k contexts hold v. -/
def cntTo (on : Nat → Int) (v : Int) : Nat → Nat
  | 0 => 0
  | k + 1 => cntTo on v k + if on k = v then 1 else 0
def busyW (n : Nat) (on : Nat → Int) (c : Int) : Nat := if c < 0 ∨ (n : Int) ≤ c then 0 else cntTo on (c + 1) 32
def beginW (n : Nat) (s : WS) (c x : Int) : WS × Int × Int × Int :=
  if c < 0 ∨ (n : Int) ≤ c ∨ x < 0 ∨ 31 < x then (s, 0, 0, 2) else if lkOB s.Rn x then (s, 0, 0, 5) else if busyW n s.on c = 2 then (s, 0, 0, 3) else
    if (begM n s.Q s.Rn c x).2.2 = 0 then ({ s with on := updI s.on x.toNat (c + 1), Q := (begM n s.Q s.Rn c x).1.1, Rn := (begM n s.Q s.Rn c x).1.2 }, (begM n s.Q s.Rn c x).2.1, s.pr (begM n s.Q s.Rn c x).2.1.toNat - 1, 0)
    else (s, 0, 0, (begM n s.Q s.Rn c x).2.2)
def endW (s : WS) (x : Int) : WS × Int × Int :=
  if lkOB s.Rn x then ({ s with on := updI s.on x.toNat 0, Rn := (endM s.Rn x).1 }, lkO s.Rn x, 0) else (s, 0, 4)
def shut1 (s : WS) (id : Int) : WS := if ¬ inId id then s else { s with sh := updB s.sh id.toNat true, Q := s.Q.eraseP (·.1 == id) }
def shutN (s : WS) (id : Int) : Nat := if ¬ inId id then 0 else if s.sh id.toNat then 0 else 1
def shutL (s : WS) : List Int → WS × Nat
  | [] => (s, 0)
  | x :: xs => ((shutL (shut1 s x) xs).1, shutN s x + (shutL (shut1 s x) xs).2)
def clearW (s : WS) (id : Int) : WS × Int :=
  if ¬ inId id then (s, 2) else if lkIB s.Rn id then (s, 21) else ({ s with sh := updB s.sh id.toNat false, pr := updI s.pr id.toNat 0, Q := s.Q.eraseP (·.1 == id) }, 0)
def ofS (s : WS) (id : Int) : Bool := if inId id then s.sh id.toNat else false
def ofP (s : WS) (id : Int) : Int := if inId id then s.pr id.toNat else 0
def stateW (s : WS) (id : Int) : Int := if ofS s id then 3 else if ofP s id = 0 then 0 else if lkIB s.Q id then 2 else 1
/-- The works' block. -/
def workF (p n : Nat) (sh : Nat → Bool) (pr on : Nat → Int) (j : Nat) : Value :=
  if j = 0 then .pointer (some ⟨p, 0, none⟩) else if j = 1 then .int .i64 (n : Int) else
    if j < 514 then (if j % 2 = 0 then .bool (sh ((j - 2) / 2)) else .int .i64 (pr ((j - 2) / 2))) else .int .i64 (on (j - 514))
def workC (p n : Nat) (sh : Nat → Bool) (pr on : Nat → Int) : List Value := (List.range 546).map (workF p n sh pr on)
section
variable {p n : Nat} {sh : Nat → Bool} {pr on : Nat → Int}
theorem workC_at (j : Nat) (hj : j < 546) : (workC p n sh pr on)[j]? = some (workF p n sh pr on j) := by
  unfold workC; simp [hj]
theorem workC_sh (i : Nat) (hi : i < 256) : (workC p n sh pr on)[2 + i * 2]? = some (.bool (sh i)) := by
  rw [workC_at _ (by omega)]
  unfold workF
  rw [if_neg (by omega), if_neg (by omega), if_pos (by omega), if_pos (by omega), show (2 + i * 2 - 2) / 2 = i by omega]
theorem workC_pr (i : Nat) (hi : i < 256) : (workC p n sh pr on)[2 + i * 2 + 1]? = some (.int .i64 (pr i)) := by
  rw [workC_at _ (by omega)]
  unfold workF
  rw [if_neg (by omega), if_neg (by omega), if_pos (by omega), if_neg (by omega), show (2 + i * 2 + 1 - 2) / 2 = i by omega]
theorem workC_on (c : Nat) (hc : c < 32) : (workC p n sh pr on)[514 + c]? = some (.int .i64 (on c)) := by
  rw [workC_at _ (by omega)]
  unfold workF
  rw [if_neg (by omega), if_neg (by omega), if_neg (by omega), show 514 + c - 514 = c by omega]
theorem range_set (N : Nat) (F G : Nat → Value) (i : Nat) (v : Value) (h1 : i < N → G i = v) (h2 : ∀ j, j < N → j ≠ i → G j = F j) : ((List.range N).map F).set i v = (List.range N).map G := by
  apply List.ext_getElem
  · simp
  · intro j h3 h4
    have hj : j < N := by simpa using h4
    rw [List.getElem_set]
    by_cases e : i = j
    · subst e
      rw [if_pos rfl]; simp [h1 hj]
    · rw [if_neg e]; simp [h2 j hj (Ne.symm e)]
theorem workC_setSh (i : Nat) (hi : i < 256) (v : Bool) : (workC p n sh pr on).set (2 + i * 2) (.bool v) = workC p n (updB sh i v) pr on := by
  refine range_set _ _ _ _ _ (fun _ => ?_) fun j hj hne => ?_
  · unfold workF updB
    rw [if_neg (by omega), if_neg (by omega), if_pos (by omega), if_pos (by omega), show (2 + i * 2 - 2) / 2 = i by omega, if_pos rfl]
  · unfold workF updB
    by_cases h1 : j = 0 ∨ j = 1 ∨ ¬ j < 514 ∨ ¬ j % 2 = 0
    · rcases h1 with h1 | h1 | h1 | h1 <;> simp [h1]
    · have h2 : ¬ (j - 2) / 2 = i := by omega
      rw [if_neg h2]
theorem workC_setPr (i : Nat) (hi : i < 256) (v : Int) : (workC p n sh pr on).set (2 + i * 2 + 1) (.int .i64 v) = workC p n sh (updI pr i v) on := by
  refine range_set _ _ _ _ _ (fun _ => ?_) fun j hj hne => ?_
  · unfold workF updI
    rw [if_neg (by omega), if_neg (by omega), if_pos (by omega), if_neg (by omega), show (2 + i * 2 + 1 - 2) / 2 = i by omega, if_pos rfl]
  · unfold workF updI
    by_cases h1 : j = 0 ∨ j = 1 ∨ ¬ j < 514 ∨ j % 2 = 0
    · rcases h1 with h1 | h1 | h1 | h1 <;> simp [h1]
    · have h2 : ¬ (j - 2) / 2 = i := by omega
      rw [if_neg h2]
theorem workC_setOn (c : Nat) (v : Int) : (workC p n sh pr on).set (514 + c) (.int .i64 v) = workC p n sh pr (updI on c v) := by
  refine range_set _ _ _ _ _ (fun _ => ?_) fun j hj hne => ?_
  · unfold workF updI
    rw [if_neg (by omega), if_neg (by omega), if_neg (by omega), show 514 + c - 514 = c by omega, if_pos rfl]
  · unfold workF updI
    by_cases h1 : j = 0 ∨ j = 1 ∨ j < 514
    · rcases h1 with h1 | h1 | h1 <;> simp [h1]
    · have h2 : ¬ j - 514 = c := by omega
      rw [if_neg h2]
end
theorem cntTo_le (on : Nat → Int) (v : Int) : ∀ k, cntTo on v k ≤ k
  | 0 => Nat.le_refl _
  | k + 1 => by have := cntTo_le on v k; unfold cntTo; split <;> omega
theorem cntTo_upd_far (on : Nat → Int) (v : Int) (i : Nat) (u : Int) : ∀ k, k ≤ i → cntTo (updI on i u) v k = cntTo on v k
  | 0, _ => rfl
  | k + 1, hk => by
    unfold cntTo
    rw [cntTo_upd_far on v i u k (by omega)]
    have : updI on i u k = on k := by unfold updI; rw [if_neg (by omega)]
    rw [this]
theorem cntTo_upd (on : Nat → Int) (v : Int) (i : Nat) (u : Int) : ∀ k, i < k → cntTo (updI on i u) v k + (if on i = v then 1 else 0) = cntTo on v k + (if u = v then 1 else 0)
  | 0, h => absurd h (Nat.not_lt_zero _)
  | k + 1, h => by
    unfold cntTo
    by_cases e : i = k
    · subst e
      rw [cntTo_upd_far on v i u i (Nat.le_refl _)]
      have : updI on i u i = u := by simp [updI]
      rw [this]; omega
    · have h1 := cntTo_upd on v i u k (by omega)
      have : updI on i u k = on k := by unfold updI; rw [if_neg (fun h => e h.symm)]
      rw [this]; omega
end Go.Proofs.Ytcggbfpangnllaa
