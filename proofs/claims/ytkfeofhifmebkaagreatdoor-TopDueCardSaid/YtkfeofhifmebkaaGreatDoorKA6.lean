/- The tops: a verified evaluator of the program (KA6). -/
import Derived.Test.YtkfeofhifmebkaaGreatDoorKA1
import Derived.Test.YtkfeofhifmebkaaGreatDoorKA2
import Derived.Test.YtkfeofhifmebkaaGreatDoorKA3
import Derived.Test.YtkfeofhifmebkaaGreatDoorKA4
import Derived.Test.YtkfeofhifmebkaaGreatDoorKA5
namespace Go.Ev
open Go Go.Proofs
theorem sf3_ok {ν : Nat → Int} {base : Nat} : SelfOk Tryz.prog E2 ν base sf3 :=
  selfStep_ok e2_ok i2_ok (memoSelf_ok (memoSelf_ok sf2_ok (call_lands_of sf2_ok aw_round2)) (call_lands_of sf2_ok aw_round1))
theorem aw_body : Tryz.f12.body = some (seqL [awC 0, awC 1, awC 2, awC 3] (seqL [awC 4] (awR 5))) := by kernel_rfl
theorem awake_lands0 {ν : Nat → Int} {base : Nat} : ∃ st', CallLands Tryz.prog E2 ν base 12 [] ⟨.leaf, 0⟩ (.bool true) st' := by
  obtain ⟨out, h⟩ := isOkB_ok aw_run3
  have h0 := (sf2_ok (ν := ν) (base := base)).code h; clear h; obtain ⟨e, a1, st1, h, F0, hF0, hl⟩ := h0
  have hF : F0 = Tryz.f12 := by have := Tryz.func12; rw [hF0] at this; cases this; rfl
  subst hF
  cases e <;> dsimp only at h <;> try (cases h; done)
  have hl2 := pieces_lands sf3_ok Tryz.func12 aw_run2 hl
  have hl1 := pieces_lands sf2_ok Tryz.func12 aw_run1 hl2
  have hfn : getT E2.fn 12 = some Tryz.f12 := by kernel_rfl
  obtain ⟨v, st', h, hc⟩ := func_lands (e2_ok (ν := ν)) hfn aw_body (args := []) (tmps := aw0A.tmps) (Nat.zero_le _) (fun t ht => by
    have ht : t < 72 := ht
    have e : flat aw0A.tmps = List.replicate 72 undefS := rfl
    rw [e, List.getElem?_replicate, if_pos ht]
    rfl) hl1 (.inr rfl) (k := finT) h
  unfold finT at h
  split at h
  · split at h
    · exact ⟨st', hc⟩
    · cases h
  · cases h
/-- awake() is true, from whatever state -/
theorem awake_lands {E : Env} (hg : E.glob = glob0f) {ν : Nat → Int} {base : Nat} (st : St) : CallLands Tryz.prog E ν base 12 [] st (.bool true) st := by
  obtain ⟨st', h⟩ := awake_lands0 (ν := ν) (base := base)
  exact h.closed (E' := E2) hg.symm (fun g cs e => glob0_free g cs (by rw [hg] at e; exact e)) rfl rfl st
end Go.Ev
