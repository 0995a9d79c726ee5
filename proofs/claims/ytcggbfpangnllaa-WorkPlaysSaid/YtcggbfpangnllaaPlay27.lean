/- WorkPlays: what the program's works and the document's works have in common. -/
import Derived.Test.YtcggbfpangnllaaRef27f
import Derived.Test.YtcggbfpangnllaaRef27g
import Derived.Test.YtcggbfpangnllaaRef27h
import Derived.Test.YtcggbfpangnllaaRef27c
import Derived.Test.YtcggbfpangnllaaOpen27
namespace Go.Proofs.Ytcggbfpangnllaa
open Go.RowKit i64

/-- Who is shut isn't queued; each context's CPU is one. -/
structure OkP (n : Nat) (s : WS) : Prop where
  shq : ∀ i : Nat, s.sh i = true → lkIB s.Q (i : Int) = false
  on : ∀ c, c < 32 → s.on c ≤ (n : Int)
theorem lkIB_eraseF {Q : List Th} (p : Th → Bool) {i : Int} (h : lkIB Q i = false) : lkIB (Q.eraseP p) i = false := by
  refine lkIB_false fun y hy e => ?_
  have := lkIB_iff.2 ⟨y, List.mem_of_mem_eraseP hy, e⟩
  rw [h] at this; cases this
theorem erase_none {Q : List Th} {i : Int} (h : lkIB Q i = false) : Q.eraseP (·.1 == i) = Q := by
  refine List.eraseP_of_forall_not fun y hy e => ?_
  have := lkIB_iff.2 ⟨y, hy, by simpa using e⟩
  rw [h] at this; cases this
theorem updB_same' (f : Nat → Bool) (i : Nat) (v : Bool) : updB f i v i = v := by simp [updB]
section
variable {n : Nat} {s : WS}
theorem OkP.zero (n : Nat) : OkP n WS.zero := ⟨fun i h => (by cases h), fun c _ => by show (0 : Int) ≤ n; omega⟩
theorem OkP.set (h : OkP n s) (id prog : Int) : OkP n (setW s id prog).1 := by
  unfold setW
  split
  · exact h
  · split
    · exact h
    · split
      · exact h
      · exact ⟨h.shq, h.on⟩
theorem OkP.erase (h : OkP n s) (id : Int) (pr' : Nat → Int) : OkP n { s with pr := pr', Q := s.Q.eraseP (·.1 == id) } := ⟨fun i hi => lkIB_eraseF _ (h.shq i hi), h.on⟩
theorem OkP.post (h : OkP n s) (id c : Int) : OkP n (postW n s id c).1 := by
  unfold postW
  split
  · exact h
  · rename_i hin
    split
    · exact h
    · split
      · exact h
      · rename_i hsh
        split
        · exact h
        · refine ⟨fun i hi => ?_, h.on⟩
          show lkIB (addC n s.Q c [id]).1 (i : Int) = false
          have hne : id ≠ (i : Int) := fun e => by
            subst e
            exact hsh hi
          unfold addC
          split
          · exact h.shq i hi
          · unfold addM
            split
            · split
              · exact h.shq i hi
              · show lkIB (s.Q ++ [(id, c)]) (i : Int) = false
                refine lkIB_false fun y hy e => ?_
                rcases List.mem_append.1 hy with hy | hy
                · have := lkIB_iff.2 ⟨y, hy, e⟩
                  rw [h.shq i hi] at this; cases this
                · rw [List.mem_singleton.1 hy] at e; exact hne e
            · exact h.shq i hi
theorem OkP.stop (h : OkP n s) (id : Int) : OkP n (stopW s id).1 := by
  unfold stopW
  split
  · exact h
  · split
    · exact h
    · exact h.erase id s.pr
theorem OkP.begin (h : OkP n s) (c x : Int) : OkP n (beginW n s c x).1 := by
  unfold beginW
  split
  · exact h
  · rename_i hrg
    split
    · exact h
    · split
      · exact h
      · split
        · refine ⟨fun i hi => ?_, fun k hk => ?_⟩
          · show lkIB (begM n s.Q s.Rn c x).1.1 (i : Int) = false
            unfold begM
            repeat' split
            all_goals first | exact h.shq i hi | exact lkIB_eraseF _ (h.shq i hi)
          · show updI s.on x.toNat (c + 1) k ≤ n
            unfold updI
            split
            · omega
            · exact h.on k hk
        · exact h
theorem OkP.end' (h : OkP n s) (x : Int) : OkP n (endW s x).1 := by
  unfold endW
  split
  · refine ⟨h.shq, fun k hk => ?_⟩
    show updI s.on x.toNat 0 k ≤ n
    unfold updI
    split
    · omega
    · exact h.on k hk
  · exact h
theorem OkP.clear (h : OkP n s) (id : Int) : OkP n (clearW s id).1 := by
  unfold clearW
  split
  · exact h
  · split
    · exact h
    · refine ⟨fun i hi => ?_, h.on⟩
      have hi' : updB s.sh id.toNat false i = true := hi
      unfold updB at hi'
      split at hi'
      · cases hi'
      · exact lkIB_eraseF _ (h.shq i hi')
theorem OkP.shut (h : OkP n s) (hnd : (s.Q.map (·.1)).Nodup) (id : Int) : OkP n (shutR s id).1 := by
  unfold shutR
  split
  · exact h
  · rename_i hin
    split
    · exact h
    · refine ⟨fun i hi => ?_, h.on⟩
      have hi' : updB s.sh id.toNat true i = true := hi
      show lkIB (s.Q.eraseP (·.1 == id)) (i : Int) = false
      unfold updB at hi'
      split at hi'
      · rename_i e
        have : (i : Int) = id := by
          have := Classical.not_not.1 hin
          unfold inId at this
          omega
        rw [this]
        exact eraseP_gone hnd id
      · exact lkIB_eraseF _ (h.shq i hi')
theorem shut1_in (s : WS) (i : Nat) (h : inId (i : Int)) : shut1 s (i : Int) = { s with sh := updB s.sh i true, Q := s.Q.eraseP (·.1 == (i : Int)) } := by
  unfold shut1; rw [if_neg (not_not_intro h)]; rfl
/-- Shut twice is shut once. -/
theorem OkP.shut2 (h : OkP n s) (hnd : (s.Q.map (·.1)).Nodup) (id : Int) : (shutL s [id, id]).1 = (shutR s id).1 ∧ (((shutR s id).2 = true ∧ (shutL s [id, id]).2 = 1) ∨ ((shutR s id).2 = false ∧ (shutL s [id, id]).2 = 0)) := by
  by_cases hin : inId id
  · have hn := not_not_intro hin
    obtain ⟨i, rfl⟩ : ∃ i : Nat, id = i := ⟨id.toNat, by unfold inId at hin; omega⟩
    have e1 : shut1 s (i : Int) = { s with sh := updB s.sh i true, Q := s.Q.eraseP (·.1 == (i : Int)) } := shut1_in s i hin
    have hs1 : (shut1 s (i : Int)).sh i = true := by rw [e1]; exact updB_same' s.sh i true
    have e3 : shutN (shut1 s (i : Int)) (i : Int) = 0 := by
      have hs2 : (shut1 s (i : Int)).sh ((i : Int)).toNat = true := by rw [show ((i : Int)).toNat = i from rfl]; exact hs1
      unfold shutN; rw [if_neg hn, if_pos hs2]
    have e4 : (shutL s [(i : Int), (i : Int)]).2 = shutN s (i : Int) := by simp only [shutL]; rw [e3]; omega
    have e5 : (shutL s [(i : Int), (i : Int)]).1 = shut1 (shut1 s (i : Int)) (i : Int) := by simp only [shutL]
    cases hs : s.sh i with
    | true =>
      have e2 : shut1 s (i : Int) = s := by rw [e1, updB_at hs, erase_none (h.shq i hs)]
      have r1 : shutR s (i : Int) = (s, false) := by unfold shutR; rw [if_neg hn, if_pos (show s.sh ((i : Int)).toNat = true from hs)]
      have r2 : shutN s (i : Int) = 0 := by unfold shutN; rw [if_neg hn, if_pos (show s.sh ((i : Int)).toNat = true from hs)]
      rw [e4, e5, e2, e2, r1, r2]
      exact ⟨rfl, .inr ⟨rfl, rfl⟩⟩
    | false =>
      have hns : ¬ s.sh ((i : Int)).toNat = true := by rw [show ((i : Int)).toNat = i from rfl, hs]; decide
      have r1 : shutR s (i : Int) = ({ s with sh := updB s.sh i true, Q := s.Q.eraseP (·.1 == (i : Int)) }, true) := by unfold shutR; rw [if_neg hn, if_neg hns]; rfl
      have r2 : shutN s (i : Int) = 1 := by unfold shutN; rw [if_neg hn, if_neg hns]
      rw [e4, e5, r1, r2]
      refine ⟨?_, .inl ⟨rfl, rfl⟩⟩
      have hd : (s.Q.eraseP (·.1 == (i : Int))).eraseP (·.1 == (i : Int)) = s.Q.eraseP (·.1 == (i : Int)) := erase_none (eraseP_gone hnd (i : Int))
      have e6 := shut1_in (shut1 s (i : Int)) i hin
      rw [e6, updB_at hs1, e1]
      show ({ s with sh := updB s.sh i true, Q := (s.Q.eraseP (·.1 == (i : Int))).eraseP (·.1 == (i : Int)) } : WS) = _
      rw [hd]
  · have e1 : shut1 s id = s := by unfold shut1; rw [if_pos hin]
    have e2 : shutN s id = 0 := by unfold shutN; rw [if_pos hin]
    have r1 : shutR s id = (s, false) := by unfold shutR; rw [if_pos hin]
    refine ⟨?_, .inr ⟨by rw [r1], ?_⟩⟩
    · simp only [shutL]; rw [e1, e1, r1]
    · simp only [shutL]; rw [e1, e2]
end
end Go.Proofs.Ytcggbfpangnllaa
