/- Plain mathematics of package sect: what readers do. -/
import Derived.Test.YtefippjakkgjkaaDoorMaskM
namespace Go.Proofs.YtefippjakkgjkaaDoor

/-- The sections: each reader's depth and stamp, who is inside, the last stamp. -/
structure SSt where
  rs : List (Nat × Nat)
  m : Nat
  st : Nat
def SSt.init : SSt := ⟨List.replicate 64 (0, 0), 0, 0⟩
def SSt.dep (S : SSt) (r : Nat) : Nat := (S.rs.getD r (0, 0)).1
def SSt.sin (S : SSt) (r : Nat) : Nat := (S.rs.getD r (0, 0)).2
structure SSt.Ok (S : SSt) : Prop where
  len : S.rs.length = 64
  word : S.m < 18446744073709551616
  dep8 : ∀ r, S.dep r ≤ 8
  sle : ∀ r, S.sin r ≤ S.st
  bits : ∀ r : Nat, r < 64 → hasN S.m r = decide (0 < S.dep r)
  zero : ∀ r, S.dep r = 0 → S.sin r = 0
  pos : ∀ r, 0 < S.dep r → 0 < S.sin r
/-- One goes one deeper: the error, and what is behind it. -/
def SSt.entE (S : SSt) (r : Int) : Int := if 0 ≤ r ∧ r < 64 then (if S.dep r.toNat = 8 then 3 else 0) else 2
def SSt.ent (S : SSt) (r : Int) : SSt :=
  if 0 ≤ r ∧ r < 64 then
    (if S.dep r.toNat = 8 then S
     else if S.dep r.toNat = 0 then ⟨S.rs.set r.toNat (1, S.st + 1), orN S.m r, S.st + 1⟩
     else ⟨S.rs.set r.toNat (S.dep r.toNat + 1, S.sin r.toNat), S.m, S.st⟩)
  else S
/-- One goes one less deep: the error, whether its section ended, what is behind it. -/
def SSt.exiE (S : SSt) (r : Int) : Int := if 0 ≤ r ∧ r < 64 then (if S.dep r.toNat = 0 then 6 else 0) else 2
def SSt.exiB (S : SSt) (r : Int) : Bool := decide (0 ≤ r ∧ r < 64) && decide (S.dep r.toNat = 1)
def SSt.exi (S : SSt) (r : Int) : SSt :=
  if 0 ≤ r ∧ r < 64 then
    (if S.dep r.toNat = 0 then S
     else if S.dep r.toNat = 1 then ⟨S.rs.set r.toNat (0, 0), withoutN S.m [r], S.st⟩
     else ⟨S.rs.set r.toNat (S.dep r.toNat - 1, S.sin r.toNat), S.m, S.st⟩)
  else S

theorem getDS_set (l : List (Nat × Nat)) (k j : Nat) (x : Nat × Nat) (h : k < l.length) : (l.set k x).getD j (0, 0) = if k = j then x else l.getD j (0, 0) := by
  by_cases e : k = j
  · subst e; simp [List.getD, h]
  · rw [if_neg e]; simp [List.getD, e]
theorem SSt.dep_set (l : List (Nat × Nat)) (m st k : Nat) (x : Nat × Nat) (h : k < l.length) (j : Nat) : (SSt.mk (l.set k x) m st).dep j = if k = j then x.1 else (l.getD j (0, 0)).1 := by
  unfold SSt.dep; simp only [getDS_set l k j x h]; split <;> rfl
theorem SSt.sin_set (l : List (Nat × Nat)) (m st k : Nat) (x : Nat × Nat) (h : k < l.length) (j : Nat) : (SSt.mk (l.set k x) m st).sin j = if k = j then x.2 else (l.getD j (0, 0)).2 := by
  unfold SSt.sin; simp only [getDS_set l k j x h]; split <;> rfl
theorem hasN_orS (m : Nat) (i : Int) (k : Nat) (hk : k < 64) : hasN (orN m i) k = (hasN m k || decide (i = (k : Int))) := by
  have hb : (bitN i).testBit k = decide (i = (k : Int)) := by rw [testBit_bitN, decide_eq_decide]; omega
  simp only [hasN, orN, Int.toNat_natCast, Nat.testBit_or, hb]
  rw [decide_eq_true (show (0 : Int) ≤ (k : Int) ∧ (k : Int) < 64 by omega), Bool.true_and, Bool.true_and]
theorem hasN_withoutS (m : Nat) (zs : List Int) (k : Nat) (hk : k < 64) : hasN (withoutN m zs) k = (hasN m k && !decide ((k : Int) ∈ zs)) := by
  simp only [hasN, Int.toNat_natCast, testBit_withoutN k hk]
  rw [decide_eq_true (show (0 : Int) ≤ (k : Int) ∧ (k : Int) < 64 by omega), Bool.true_and, Bool.true_and]
theorem getD_rep (n r : Nat) (x : Nat × Nat) : (List.replicate n x).getD r x = x := by
  simp only [List.getD, List.getElem?_replicate]
  split <;> rfl
theorem SSt.init_dep (r : Nat) : SSt.init.dep r = 0 := congrArg Prod.fst (getD_rep 64 r (0, 0))
theorem SSt.init_sin (r : Nat) : SSt.init.sin r = 0 := congrArg Prod.snd (getD_rep 64 r (0, 0))
theorem SSt.init_ok : SSt.init.Ok := by
  refine ⟨List.length_replicate, by decide, fun r => ?_, fun r => ?_, fun r _ => ?_, fun r _ => SSt.init_sin r, fun r h => ?_⟩
  · rw [SSt.init_dep]; omega
  · rw [SSt.init_sin]; omega
  · rw [SSt.init_dep]; simp [SSt.init, hasN]
  · rw [SSt.init_dep] at h; omega
theorem SSt.Ok.ent {S : SSt} (h : S.Ok) (r : Int) : (S.ent r).Ok := by
  unfold SSt.ent
  split
  · rename_i hr
    obtain ⟨k, rfl⟩ : ∃ k : Nat, r = k := ⟨r.toNat, by omega⟩
    rw [Int.toNat_natCast]
    have hk : k < S.rs.length := by rw [h.len]; omega
    split
    · exact h
    · rename_i h8
      have hd8 := h.dep8 k
      split
      · rename_i h0
        refine ⟨by simp [h.len], orN_lt _ _ h.word, fun j => ?_, fun j => ?_, fun j hj => ?_, fun j => ?_, fun j => ?_⟩
        · rw [SSt.dep_set _ _ _ _ _ hk]; split; · omega
          exact h.dep8 j
        · rw [SSt.sin_set _ _ _ _ _ hk]; split; · simp
          exact Nat.le_succ_of_le (h.sle j)
        · rw [SSt.dep_set _ _ _ _ _ hk]
          simp only [hasN_orS _ _ _ hj, h.bits j hj]
          by_cases e : k = j
          · subst e; simp
          · rw [if_neg e]
            have : ¬ (k : Int) = (j : Int) := by omega
            simp [this, SSt.dep]
        · rw [SSt.dep_set _ _ _ _ _ hk, SSt.sin_set _ _ _ _ _ hk]; split; · intro h; simp at h
          exact h.zero j
        · rw [SSt.dep_set _ _ _ _ _ hk, SSt.sin_set _ _ _ _ _ hk]; split; · intro _; simp
          exact h.pos j
      · rename_i h0
        refine ⟨by simp [h.len], h.word, fun j => ?_, fun j => ?_, fun j hj => ?_, fun j => ?_, fun j => ?_⟩
        · rw [SSt.dep_set _ _ _ _ _ hk]; split; · simp only; omega
          exact h.dep8 j
        · rw [SSt.sin_set _ _ _ _ _ hk]; split; · exact h.sle k
          exact h.sle j
        · rw [SSt.dep_set _ _ _ _ _ hk]
          simp only [h.bits j hj]
          by_cases e : k = j
          · subst e; simp; omega
          · rw [if_neg e]; rfl
        · rw [SSt.dep_set _ _ _ _ _ hk, SSt.sin_set _ _ _ _ _ hk]; split; · intro h; simp at h
          exact h.zero j
        · rw [SSt.dep_set _ _ _ _ _ hk, SSt.sin_set _ _ _ _ _ hk]; split; · intro _; exact h.pos k (by omega)
          exact h.pos j
  · exact h
theorem SSt.Ok.exi {S : SSt} (h : S.Ok) (r : Int) : (S.exi r).Ok := by
  unfold SSt.exi
  split
  · rename_i hr
    obtain ⟨k, rfl⟩ : ∃ k : Nat, r = k := ⟨r.toNat, by omega⟩
    rw [Int.toNat_natCast]
    have hk : k < S.rs.length := by rw [h.len]; omega
    have hd8 := h.dep8 k
    split
    · exact h
    · rename_i h0
      split
      · rename_i h1
        refine ⟨by simp [h.len], withoutN_lt _ _ h.word, fun j => ?_, fun j => ?_, fun j hj => ?_, fun j => ?_, fun j => ?_⟩
        · rw [SSt.dep_set _ _ _ _ _ hk]; split; · omega
          exact h.dep8 j
        · rw [SSt.sin_set _ _ _ _ _ hk]; split; · simp
          exact h.sle j
        · rw [SSt.dep_set _ _ _ _ _ hk]
          simp only [hasN_withoutS _ _ _ hj, h.bits j hj]
          by_cases e : k = j
          · subst e; simp
          · rw [if_neg e]
            have : ¬ (j : Int) = (k : Int) := by omega
            simp [this, SSt.dep]
        · rw [SSt.dep_set _ _ _ _ _ hk, SSt.sin_set _ _ _ _ _ hk]; split; · intro _; rfl
          exact h.zero j
        · rw [SSt.dep_set _ _ _ _ _ hk, SSt.sin_set _ _ _ _ _ hk]; split; · intro h; simp at h
          exact h.pos j
      · rename_i h1
        refine ⟨by simp [h.len], h.word, fun j => ?_, fun j => ?_, fun j hj => ?_, fun j => ?_, fun j => ?_⟩
        · rw [SSt.dep_set _ _ _ _ _ hk]; split; · simp only; omega
          exact h.dep8 j
        · rw [SSt.sin_set _ _ _ _ _ hk]; split; · exact h.sle k
          exact h.sle j
        · rw [SSt.dep_set _ _ _ _ _ hk]
          simp only [h.bits j hj]
          by_cases e : k = j
          · subst e; simp; omega
          · rw [if_neg e]; rfl
        · rw [SSt.dep_set _ _ _ _ _ hk, SSt.sin_set _ _ _ _ _ hk]; split; · intro h; simp at h; omega
          exact h.zero j
        · rw [SSt.dep_set _ _ _ _ _ hk, SSt.sin_set _ _ _ _ _ hk]; split; · intro _; exact h.pos k (by omega)
          exact h.pos j
  · exact h
theorem SSt.ent_st (S : SSt) (r : Int) : (S.ent r).st ≤ S.st + 1 := by
  unfold SSt.ent; split
  · split; · omega
    split; · simp
    simp
  · omega
theorem SSt.exi_st (S : SSt) (r : Int) : (S.exi r).st = S.st := by
  unfold SSt.exi; split
  · split; · rfl
    split <;> rfl
  · rfl
/-- Several enter, one behind the other, up to the first that can't. -/
def SSt.ents : SSt → List Int → SSt × Int
  | S, [] => (S, 0)
  | S, r :: l => if S.entE r = 0 then (S.ent r).ents l else (S, S.entE r)
end Go.Proofs.YtefippjakkgjkaaDoor
