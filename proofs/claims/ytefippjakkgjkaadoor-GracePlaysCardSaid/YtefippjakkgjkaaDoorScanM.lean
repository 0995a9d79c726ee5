/- Plain mathematics of scans. -/
import Derived.Test.YtefippjakkgjkaaDoorDeedM
namespace Go.Proofs.YtefippjakkgjkaaDoor

/-- A scan: its holdouts, its stamp, its place. -/
structure ScSt where
  left : Nat
  began : Nat
  place : Nat
structure ScSt.Ok (c : ScSt) : Prop where
  word : c.left < 18446744073709551616
  place : c.place < 64
/-- A reader that is a holdout no more. -/
def lookB (S : SSt) (c : ScSt) (r : Int) : Bool := hasN c.left r && !(decide (0 < S.sinI r) && decide (S.sinI r ≤ (c.began : Int)))
def look (S : SSt) (c : ScSt) (r : Int) : ScSt := if lookB S c r = true then { c with left := withoutN c.left [r] } else c
/-- One look of a poll. -/
def pstep (S : SSt) (c : ScSt) : ScSt := if aroundIs c.left (c.place : Int) = true then { look S c (aroundV c.left (c.place : Int) : Nat) with place := (aroundV c.left (c.place : Int) + 1) % 64 } else c
def psteps (S : SSt) : Nat → ScSt → ScSt
  | 0, c => c
  | n + 1, c => psteps S n (pstep S c)
def pollN (c : ScSt) (n : Int) : Nat := (min n (lenN c.left : Int)).toNat
def poll (S : SSt) (c : ScSt) (n : Int) : ScSt := psteps S (pollN c n) c
theorem look_ok {c : ScSt} (h : c.Ok) (S : SSt) (r : Int) : (look S c r).Ok := by
  unfold look; split
  · exact ⟨withoutN_lt _ _ h.word, h.place⟩
  · exact h
theorem look_began (c : ScSt) (S : SSt) (r : Int) : (look S c r).began = c.began := by unfold look; split <;> rfl
theorem look_place (c : ScSt) (S : SSt) (r : Int) : (look S c r).place = c.place := by unfold look; split <;> rfl
theorem pstep_ok {c : ScSt} (h : c.Ok) (S : SSt) : (pstep S c).Ok := by
  unfold pstep; split
  · exact ⟨(look_ok h S _).word, Nat.mod_lt _ (by decide)⟩
  · exact h
theorem pstep_began (c : ScSt) (S : SSt) : (pstep S c).began = c.began := by
  unfold pstep; split
  · exact look_began c S _
  · rfl
theorem psteps_stop (S : SSt) : ∀ (n : Nat) (c : ScSt), aroundIs c.left (c.place : Int) = false → psteps S n c = c
  | 0, _, _ => rfl
  | n + 1, c, h => by
    have : pstep S c = c := by unfold pstep; rw [h]; rfl
    rw [psteps, this]; exact psteps_stop S n c h
theorem psteps_ok (S : SSt) : ∀ (n : Nat) (c : ScSt), c.Ok → (psteps S n c).Ok
  | 0, _, h => h
  | n + 1, _, h => psteps_ok S n _ (pstep_ok h S)
theorem psteps_began (S : SSt) : ∀ (n : Nat) (c : ScSt), (psteps S n c).began = c.began
  | 0, _ => rfl
  | n + 1, c => by rw [psteps, psteps_began S n]; exact pstep_began c S
theorem aroundV_lt (m : Nat) (i : Int) (h : aroundIs m i = true) : aroundV m i < 64 := by
  unfold aroundIs at h
  obtain ⟨k, hk⟩ := Option.isSome_iff_exists.1 h
  unfold aroundV
  rw [hk, Option.getD_some]
  unfold aroundN at hk
  have : ∀ i : Int, ∀ k, nextN m i = some k → k < 64 := fun i k h => ((mem_listN m k).1 (List.mem_of_find?_eq_some h)).1
  split at hk
  · rename_i k2 h2; cases hk; exact this _ _ h2
  · exact this _ _ hk
/-- Several looked at: how many are holdouts no more, and the scan behind it. -/
def quiets (S : SSt) : ScSt → List Int → ScSt × Nat
  | c, [] => (c, 0)
  | c, r :: l => let q := quiets S (look S c r) l; (q.1, q.2 + (if lookB S c r = true then 1 else 0))
end Go.Proofs.YtefippjakkgjkaaDoor
