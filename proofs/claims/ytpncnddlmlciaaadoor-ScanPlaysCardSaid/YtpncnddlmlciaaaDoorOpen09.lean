/- The arguments of chapter 9's laws: slices of structs. -/
import Derived.Test.YtpncnddlmlciaaaDoorRef09
import Derived.Test.YtpncnddlmlciaaaDoorRow
namespace Go.Proofs.YtpncnddlmlciaaaDoor
open Go.RowKit

theorem acts_open {H : Type} {enc : TypeId × Value → H} {W : World} {base : Nat} {r : Reach} {b0 : Nat} {sp : Nat → Bool} {held : Bool} {v : Value} {d : DataW H} {ps : List MemPlace}
    (hval : Value.okWide Tryd.prog W r b0 22 v) (hd : DataW.Trod enc Tryd.prog W base sp held 22 v d ps) : ∃ acts, Deeds W v acts := by
  obtain ⟨els, hS, hF⟩ := structs_open (sz := 2) Tryd.underlying22 Tryd.underlying35 (by kernel_rfl) (by kernel_rfl) (by decide) (by
    intro j f hf
    match j, hf with
    | 0, hf => obtain rfl := Option.some.inj hf; exact ⟨rfl, by kernel_rfl⟩
    | 1, hf => obtain rfl := Option.some.inj hf; exact ⟨rfl, by kernel_rfl⟩
    | j + 2, hf => simp at hf) hval hd
  have each : ∀ i, i < els.length → ∃ a : Int × Bool, els.getD i [] = deedEl a := by
    intro i hi
    have hm : els.getD i [] ∈ els := by simp [List.getD, hi]
    obtain ⟨n0, e0, _⟩ := cell_int Tryd.underlying3 (hF _ hm 0 _ rfl)
    obtain ⟨n1, e1⟩ := cell_bool Tryd.underlying4 (hF _ hm 1 _ rfl)
    have hl := hS.size _ hm
    generalize els.getD i [] = el at *
    match el, hl, e0, e1 with
    | [a, b], _, e0, e1 => exact ⟨(n0, n1), by simp at e0 e1; simp [deedEl, e0, e1]⟩
  obtain ⟨f, hf⟩ := Go.Deep.choose_lt each
  refine ⟨(List.range els.length).map f, ?_⟩
  have e : ((List.range els.length).map f).map deedEl = els := by
    apply List.ext_getElem
    · simp
    · intro i h1 h2
      have := hf i h2
      simp only [List.getElem_map, List.getElem_range]
      rw [← this]; simp [List.getD, h2]
  unfold Deeds
  rw [e]
  exact hS
end Go.Proofs.YtpncnddlmlciaaaDoor
