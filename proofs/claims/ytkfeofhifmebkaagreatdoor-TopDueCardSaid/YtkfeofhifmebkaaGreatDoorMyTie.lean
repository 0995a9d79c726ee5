/- The tie of the laid variables. -/
import Derived.Test.YtkfeofhifmebkaaGreatDoorRows
import Derived.LaidByTextLater
import Derived.SevenTiedAt
namespace Go.Proofs.YtkfeofhifmebkaaGreatDoor
open Go
def keyP : MemPlace → Option Nat
  | .cell b off => match Nat.blt off 1024 with
    | true => some (b * 1024 + off)
    | false => Option.none
  | _ => Option.none
def nodupB : Nat → List MemPlace → Bool
  | _, [] => true
  | acc, p :: l => match keyP p with
    | some k => match Nat.beq (Nat.land acc (Nat.pow 2 k)) 0 with
      | true => nodupB (Nat.lor acc (Nat.pow 2 k)) l
      | false => false
    | Option.none => false
theorem keyP_inj {p q : MemPlace} {k : Nat} (h : keyP p = some k) (h' : keyP q = some k) : p = q := by
  unfold keyP at h h'
  split at h
  · rename_i b off
    split at h
    · rename_i g
      split at h'
      · rename_i b' off'
        split at h'
        · rename_i g'
          have g : off < 1024 := Nat.le_of_ble_eq_true g
          have g' : off' < 1024 := Nat.le_of_ble_eq_true g'
          have h := Option.some.inj h
          have h' := Option.some.inj h'
          have e : b = b' := by omega
          have e2 : off = off' := by omega
          rw [e, e2]
        · cases h'
      · cases h'
    · cases h
  · cases h
theorem nodupB_ok : ∀ {l : List MemPlace} {acc : Nat}, nodupB acc l = true → l.Nodup ∧ ∀ p ∈ l, ∀ k, keyP p = some k → acc.testBit k = false := by
  intro l
  induction l with
  | nil => intro acc _; exact ⟨.nil, fun p hp => nomatch hp⟩
  | cons p l ih =>
    intro acc h
    simp only [nodupB] at h
    split at h
    · rename_i k hk
      split at h
      · rename_i g
        obtain ⟨h1, h2⟩ := ih h
        have g : acc &&& 2 ^ k = 0 := Nat.eq_of_beq_eq_true g
        have hb : acc.testBit k = false := by
          have := congrArg (fun x => x.testBit k) g
          simpa [Nat.testBit_and, Nat.testBit_two_pow] using this
        have hor : ∀ j, (Nat.lor acc (Nat.pow 2 k)).testBit j = (acc.testBit j || decide (k = j)) := fun j => by
          show (acc ||| 2 ^ k).testBit j = _
          rw [Nat.testBit_or, Nat.testBit_two_pow]
        refine ⟨List.nodup_cons.2 ⟨fun hp => ?_, h1⟩, fun q hq j hj => ?_⟩
        · have := h2 p hp k hk
          rw [hor] at this
          simp at this
        · cases hq with
          | head => rw [hk] at hj; cases hj; exact hb
          | tail _ hq =>
            have := h2 q hq j hj
            rw [hor] at this
            simp only [Bool.or_eq_false_iff] at this
            exact this.1
      · cases h
    · cases h
theorem map_and {α : Type} {o : Option α} {f g : α → Bool} (hf : o.map f = some true) (hg : o.map g = some true) : o.map (fun x => f x && g x) = some true := by
  cases o with
  | none => cases hf
  | some a => simp only [Option.map_some, Option.some.injEq] at hf hg ⊢; simp [hf, hg]
theorem map_imp {α : Type} {o : Option α} {f g : α → Bool} (hf : o.map f = some true) (h : ∀ x, f x = true → g x = true) : o.map g = some true := by
  cases o with
  | none => cases hf
  | some a => simp only [Option.map_some, Option.some.injEq] at hf ⊢; exact h a hf
abbrev laidL : List (String × DataW Unit) := [("math/bits.deBruijn64tab", Rows.laid_math_bits_deBruijn64tab), ("strings.asciiSpace", Rows.laid_strings_asciiSpace), ("unicode.White_Space", Rows.laid_unicode_White_Space), ("internal/strconv.uint64pow10", Rows.laid_internal_strconv_uint64pow10), ("math/bits.deBruijn32tab", Rows.laid_math_bits_deBruijn32tab)]
set_option maxHeartbeats 4000000 in
theorem tie_nodup (os : Os) (tape : Nat → Question → Nat) : (DataW.laidRun Tryz.prog (varsWorld Tryz.prog 400 (varsId Tryz.prog) os tape).memory 8 (laidL.map (·.1))).map (fun x => nodupB 0 x.2) = some true := by kernel_rfl
set_option maxHeartbeats 4000000 in
theorem tie_rows (os : Os) (tape : Nat → Question → Nat) : (DataW.laidRun Tryz.prog (varsWorld Tryz.prog 400 (varsId Tryz.prog) os tape).memory 8 (laidL.map (·.1))).map (fun x => laidRowsB Tryz.prog (varsWorld Tryz.prog 400 (varsId Tryz.prog) os tape).memory x.2) = some true := by kernel_rfl
set_option maxHeartbeats 4000000 in
theorem tie2 : Tryz.prog.laidByTextLater laidL [.data, .data, .listed, .data, .data] true :=
  Program.laidByTextLater_by_run 400 8 (by as_aux_lemma => kernel_rfl) (by as_aux_lemma => kernel_rfl) (by as_aux_lemma => kernel_rfl) (by as_aux_lemma => kernel_rfl) (by as_aux_lemma => kernel_rfl) (by as_aux_lemma => kernel_rfl) (fun _ _ => by as_aux_lemma => kernel_rfl) (fun _ _ => by as_aux_lemma => kernel_rfl)
    (fun os tape => map_and (map_imp (tie_nodup os tape) fun x h => decide_eq_true (nodupB_ok h).1) (tie_rows os tape))
theorem noOwnUnsafe2 : Tryz.pinned.checked.prog.headLifts.contains "ownunsafe" = false := by kernel_rfl
end Go.Proofs.YtkfeofhifmebkaaGreatDoor
