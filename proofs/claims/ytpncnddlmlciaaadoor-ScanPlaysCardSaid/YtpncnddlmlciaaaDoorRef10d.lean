/- Look of detentref10, whole. -/
import Derived.Test.YtpncnddlmlciaaaDoorRef10c
import Derived.Test.YtpncnddlmlciaaaDoorScanO2
namespace Go.Proofs.YtpncnddlmlciaaaDoor
open Go.RowKit Go.Shelf

theorem lookB_end (S : SSt) (c : ScSt) (r : Int) : lookB S c r = (hasN c.left r && endB S c.began r) := rfl
theorem r10Look_any (c : ScSt) (v u : Value) (l : List (Int × Bool)) (r : Int) (w : World) (hv : Bools w v c.left) (hu : Deeds w u l) (hg : Good l) (hl : l.length ≤ 100000) :
    Calls Tryd.prog 22 #[.agg (scCells c.began c.place v).toArray, u, .int .i64 r] w fun e w' => ∃ v2, e = .returned (.tuple #[.agg (scCells c.began c.place v2).toArray, .bool (lookB (runD l) c r)]) ∧ Bools w' v2 (look (runD l) c r).left ∧ Keeps w w' := by
  cases h : lookB (runD l) c r with
  | false =>
    have e : look (runD l) c r = c := by unfold look; rw [h]; rfl
    rw [e]
    exact (r10Look_no c.began c.place v u c.left l r w hv hu hg hl h).mono fun e w' ⟨h1, h2⟩ => ⟨v, h1, hv.keeps h2, h2⟩
  | true =>
    have e : (look (runD l) c r).left = withoutN c.left [r] := by unfold look; rw [if_pos h]
    rw [e]
    rw [lookB_end, Bool.and_eq_true] at h
    obtain ⟨h1, h2⟩ := h
    unfold hasN at h1
    rw [Bool.and_eq_true, decide_eq_true_eq] at h1
    obtain ⟨k, rfl⟩ : ∃ k : Nat, r = k := ⟨r.toNat, by omega⟩
    rw [Int.toNat_natCast] at h1
    exact r10Look_yes c.began c.place v u c.left l k w hv hu hg hl (by omega) h1.2 h2
end Go.Proofs.YtpncnddlmlciaaaDoor
