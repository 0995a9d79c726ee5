/- The arguments of the waits' laws: calls. -/
import Derived.Test.YtacdmiafppmabaaDoorLaw24d
import Derived.Test.YtacdmiafppmabaaDoorRowG
namespace Go.Proofs.YtacdmiafppmabaaDoor
open Go.ChangeShapes Go.WideShapes Go.ChangeAt Go.RowKit

theorem els_mapQ {α : Type} {p : α → Prop} {els : List (List Value)} {g : α → List Value} (h : ∀ el ∈ els, ∃ a, el = g a ∧ p a) : ∃ l : List α, els = l.map g ∧ ∀ a ∈ l, p a := by
  induction els with
  | nil => exact ⟨[], rfl, fun _ h => by cases h⟩
  | cons el els ih =>
    obtain ⟨a, ha, hp⟩ := h el (by simp)
    obtain ⟨l, hl, hq⟩ := ih fun x hx => h x (by simp [hx])
    exact ⟨a :: l, by rw [ha, hl]; rfl, fun x hx => by rcases List.mem_cons.1 hx with rfl | hx; exact hp; exact hq x hx⟩
set_option maxRecDepth 100000 in
theorem acts24_open {H : Type} {enc : TypeId × Value → H} {W : World} {base : Nat} {r : Reach} {b0 : Nat} {sp : Nat → Bool} {held : Bool} {v : Value} {d : DataW H} {ps : List MemPlace}
    (hval : Value.okWide Tryd.prog W r b0 22 v) (hd : DataW.Trod enc Tryd.prog W base sp held 22 v d ps) :
    ∃ zs : List (Int × Int × Int), SlcS 3 W v (zs.map aEl24) ∧ ∀ a ∈ zs, (-9223372036854775808 ≤ a.2.1 ∧ a.2.1 ≤ 9223372036854775807) ∧ (-9223372036854775808 ≤ a.2.2 ∧ a.2.2 ≤ 9223372036854775807) := by
  obtain ⟨els, hS, hF⟩ := structs_openG (sz := 3) Tryd.underlying22 (by kernel_rfl) (by decide) hval hd
  obtain ⟨zs, rfl, hp⟩ := els_mapQ (els := els) (g := aEl24) (p := fun a => (-9223372036854775808 ≤ a.2.1 ∧ a.2.1 ≤ 9223372036854775807) ∧ (-9223372036854775808 ≤ a.2.2 ∧ a.2.2 ≤ 9223372036854775807)) fun el hel => by
    have hl := hS.size el hel
    have h := hF el hel
    have f0 := field_at Tryd.underlying28 h 0 3 0 1 rfl (by kernel_rfl)
    have f1 := field_at Tryd.underlying28 h 1 3 1 1 rfl (by kernel_rfl)
    have f2 := field_at Tryd.underlying28 h 2 3 2 1 rfl (by kernel_rfl)
    match el, hl, f0, f1, f2 with
    | [a, b, c], _, f0, f1, f2 =>
      obtain ⟨n0, rfl, _⟩ := cell_int Tryd.underlying3 f0
      obtain ⟨n1, rfl, h1⟩ := cell_int Tryd.underlying3 f1
      obtain ⟨n2, rfl, h2⟩ := cell_int Tryd.underlying3 f2
      exact ⟨(n0, n1, n2), rfl, h1, h2⟩
  exact ⟨zs, hS, hp⟩
end Go.Proofs.YtacdmiafppmabaaDoor
