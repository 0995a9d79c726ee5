/- The arguments of ScanPlays. -/
import Derived.Test.YtpncnddlmlciaaaDoorLaw10d
import Derived.Test.YtpncnddlmlciaaaDoorOpen09
import Derived.Test.YtpncnddlmlciaaaDoorRowG
namespace Go.Proofs.YtpncnddlmlciaaaDoor
open Go.RowKit

theorem acts10_open {H : Type} {enc : TypeId × Value → H} {W : World} {base : Nat} {r : Reach} {b0 : Nat} {sp : Nat → Bool} {held : Bool} {v : Value} {d : DataW H} {ps : List MemPlace}
    (hval : Value.okWide Tryd.prog W r b0 47 v) (hd : DataW.Trod enc Tryd.prog W base sp held 47 v d ps) : ∃ acts, Acts10 W v acts := by
  obtain ⟨els, hS, hF⟩ := structs_openG (sz := 4) Tryd.underlying47 (by kernel_rfl) (by decide) hval hd
  have each : ∀ el ∈ els, ∃ a, el = actEl a := by
    intro el hel
    have hl := hS.size el hel
    have h := hF el hel
    have f0 := field_at Tryd.underlying55 h 0 3 0 1 rfl (by kernel_rfl)
    have f1 := field_at Tryd.underlying55 h 1 35 1 2 rfl (by kernel_rfl)
    have f2 := field_at Tryd.underlying55 h 2 3 3 1 rfl (by kernel_rfl)
    have g0 := field_at Tryd.underlying35 f1 0 3 0 1 rfl (by kernel_rfl)
    have g1 := field_at Tryd.underlying35 f1 1 4 1 1 rfl (by kernel_rfl)
    match el, hl with
    | [a, b, c, e], _ =>
      obtain ⟨n0, rfl, _⟩ := cell_int Tryd.underlying3 f0
      obtain ⟨n1, rfl, _⟩ := cell_int Tryd.underlying3 g0
      obtain ⟨n2, rfl⟩ := cell_bool Tryd.underlying4 g1
      obtain ⟨n3, rfl, _⟩ := cell_int Tryd.underlying3 f2
      exact ⟨(n0, (n1, n2), n3), rfl⟩
  obtain ⟨l, rfl⟩ := els_map each
  exact ⟨l, hS⟩
end Go.Proofs.YtpncnddlmlciaaaDoor
