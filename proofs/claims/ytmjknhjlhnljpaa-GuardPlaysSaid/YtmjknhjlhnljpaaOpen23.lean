/- The arguments of chapter 23's laws: slices of structs. -/
import Derived.Test.YtmjknhjlhnljpaaLaw23d
import Derived.Test.YtmjknhjlhnljpaaRow
namespace Go.Proofs.Ytmjknhjlhnljpaa
open Go.RowKit

theorem acts_open {H : Type} {enc : TypeId × Value → H} {W : World} {base : Nat} {r : Reach} {b0 : Nat} {sp : Nat → Bool} {held : Bool} {v : Value} {d : DataW H} {ps : List MemPlace}
    (hval : Value.okWide Try.prog W r b0 22 v) (hd : DataW.Trod enc Try.prog W base sp held 22 v d ps) : ∃ acts, Acts W v acts := by
  obtain ⟨els, hS, hF⟩ := structs_open (sz := 3) Try.underlying22 Try.underlying33 (by kernel_rfl) (by kernel_rfl) (by decide) (by
    intro j f hf
    match j, hf with
    | 0, hf => obtain rfl := Option.some.inj hf; exact ⟨rfl, by kernel_rfl⟩
    | 1, hf => obtain rfl := Option.some.inj hf; exact ⟨rfl, by kernel_rfl⟩
    | 2, hf => obtain rfl := Option.some.inj hf; exact ⟨rfl, by kernel_rfl⟩
    | j + 3, hf => simp at hf) hval hd
  obtain ⟨p, cap, hv, hl, hc, hcell⟩ := hS.get
  have each : ∀ i, i < els.length → ∃ a : Bool × Int × Int, (els.getD i []).getD 0 undef = .bool a.1 ∧ (els.getD i []).getD 1 undef = .int .i64 a.2.1 ∧ (els.getD i []).getD 2 undef = .int .i64 a.2.2 := by
    intro i hi
    have hm : els.getD i [] ∈ els := by simp [List.getD, hi]
    obtain ⟨n0, e0⟩ := cell_bool Try.underlying4 (hF _ hm 0 _ rfl)
    obtain ⟨n1, e1, _⟩ := cell_int Try.underlying3 (hF _ hm 1 _ rfl)
    obtain ⟨n2, e2, _⟩ := cell_int Try.underlying3 (hF _ hm 2 _ rfl)
    exact ⟨(n0, n1, n2), e0, e1, e2⟩
  obtain ⟨f, hf⟩ := Go.Deep.choose_lt each
  refine ⟨(List.range els.length).map f, p, cap, by simpa using hv, by simpa using hl, hc, fun i hi => ?_⟩
  have hi' : i < els.length := by simpa using hi
  obtain ⟨b, off, hp, hk⟩ := hcell i hi'
  obtain ⟨e0, e1, e2⟩ := hf i hi'
  have g : ((List.range els.length).map f)[i] = f i := by simp
  rw [g]
  refine ⟨b, off, hp, ?_, ?_, ?_⟩
  · rw [← e0]; exact hk 0 (by decide)
  · rw [← e1]; exact hk 1 (by decide)
  · rw [← e2]; exact hk 2 (by decide)
end Go.Proofs.Ytmjknhjlhnljpaa
